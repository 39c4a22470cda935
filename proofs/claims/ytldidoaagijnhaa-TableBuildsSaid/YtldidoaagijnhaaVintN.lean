/- vint's fixed numbers, read, and their reference: the walks. -/
import Derived.Test.YtldidoaagijnhaaVintG
namespace Go.Proofs.Ytldidoaagijnhaa
set_option linter.unusedSimpArgs false
set_option linter.unusedVariables false
open H
theorem bits_or_wrap (a b : Nat) : bits BinOp.or IntKind.i64 (IntKind.i64.wrap (a : Int)) (IntKind.i64.wrap (b : Int)) = IntKind.i64.wrap ((a ||| b : Nat) : Int) := by
  have hw : ∀ x : Nat, BitVec.ofInt 64 (IntKind.i64.wrap (x : Int)) = BitVec.ofNat 64 x := by
    intro x
    apply BitVec.eq_of_toNat_eq
    rw [BitVec.toNat_ofInt, BitVec.toNat_ofNat, IntKind.wrap_i64]
    omega
  show IntKind.i64.wrap ((BitVec.ofInt 64 (IntKind.i64.wrap (a : Int)) ||| BitVec.ofInt 64 (IntKind.i64.wrap (b : Int))).toNat : Int) = _
  rw [hw, hw]
  have : (BitVec.ofNat 64 a ||| BitVec.ofNat 64 b) = BitVec.ofNat 64 (a ||| b) := BitVec.ofNat_or.symm
  rw [this, BitVec.toNat_ofNat, IntKind.wrap_i64, IntKind.wrap_i64]
  omega
set_option maxRecDepth 20000 in
set_option maxHeartbeats 400000 in
theorem vint_number (s : List UInt8) (hsl : s.length ≤ 9223372036854775807) (at_ wd : Int) (ha : -9223372036854775808 ≤ at_ ∧ at_ ≤ 9223372036854775807) (w : World) : Does Try.prog 43 #[str s, .int .i64 at_, .int .i64 wd] w fun v w' => v = .tuple #[.int .i64 (Vint.number s at_ wd).1, .int .i64 (Vint.number s at_ wd).2] ∧ Ext [] w w' := by
  refine does (args := [str s, .int .i64 at_, .int .i64 wd]) Try.func43 rfl (by kernel_rfl) (by kernel_rfl) rfl ent_43 (Sat.start w []) ?_; intro QV hQ
  simp -implicitDefEqProofs (disch := omega) only [go_sem]
  refine RCall_eq (vint_wide _) ?_
  by_cases hw : (wd = 1 ∨ wd = 2 ∨ wd = 4 ∨ wd = 8)
  rotate_left
  · simp -implicitDefEqProofs (disch := omega) only [go_sem, decide_eq_false hw]
    exact hQ _ _ fun w' hs => ⟨by simp only [Vint.number, Vint.wide, hw, not_false_eq_true, true_or, if_true], hs.anchor (by simp)⟩
  by_cases hc : at_ < 0
  · simp -implicitDefEqProofs (disch := omega) only [go_sem, decide_eq_true hw, decide_eq_true hc]
    exact hQ _ _ fun w' hs => ⟨by simp only [Vint.number, Vint.wide, hc, or_true, if_true], hs.anchor (by simp)⟩
  have hn1 : ¬ (¬ Vint.wide wd ∨ at_ < 0) := by unfold Vint.wide; omega
  by_cases hl1 : (s.length : Int) < at_
  · simp -implicitDefEqProofs (disch := omega) only [go_sem, decide_eq_true hw, decide_eq_false hc, hl1, decide_true]
    exact hQ _ _ fun w' hs => ⟨by simp only [Vint.number, if_neg hn1, hl1, true_or, if_true], hs.anchor (by simp)⟩
  by_cases hl2 : (s.length : Int) - at_ < wd
  · simp -implicitDefEqProofs (disch := omega) only [go_sem, decide_eq_true hw, decide_eq_false hc, hl1, hl2, decide_true, decide_false]
    exact hQ _ _ fun w' hs => ⟨by simp only [Vint.number, if_neg hn1, hl2, or_true, if_true], hs.anchor (by simp)⟩
  obtain ⟨p, rfl⟩ := Int.eq_ofNat_of_zero_le (show 0 ≤ at_ by omega)
  obtain ⟨d, rfl⟩ := Int.eq_ofNat_of_zero_le (show 0 ≤ wd by omega)
  have hd8 : d ≤ 8 := by omega
  have hv : Vint.number s (p : Int) (d : Int) = if 9223372036854775808 ≤ Vint.numS s p d then (0, 18) else ((Vint.numS s p d : Int), 0) := by
    unfold Vint.number; rw [if_neg hn1, if_neg (by omega)]; rfl
  rw [hv] at hQ
  simp -implicitDefEqProofs (disch := omega) only [go_sem, decide_eq_true hw, decide_eq_false hc, hl1, hl2, decide_false]
  refine RLoop_intro (fun f h => ∃ i : Nat, i ≤ d ∧ f 0 = str s ∧ f 1 = .int .i64 (p : Int) ∧ f 8 = .int .i64 (IntKind.i64.wrap (Vint.numS s p i : Int)) ∧ f 31 = .int .i64 (d : Int) ∧ f 32 = .int .i64 (i : Int) ∧ h = [.anchor w []]) (fun f _ => (d - ival (f 32)).toNat) ?_ ?_
  · exact ⟨0, by omega, by simp -implicitDefEqProofs (disch := omega) only [go_sem], by simp -implicitDefEqProofs (disch := omega) only [go_sem], by simp -implicitDefEqProofs (disch := omega) only [go_sem]; rfl, by simp -implicitDefEqProofs (disch := omega) only [go_sem], by simp -implicitDefEqProofs (disch := omega) only [go_sem]; rfl, rfl⟩
  rintro f h ⟨i, hi, e0, e1, e8, e31, e32, rfl⟩ Q' hQ'
  simp -implicitDefEqProofs (disch := omega) only [go_sem, e31, e32]
  refine RC_intro (fun hc1 => ?_) (fun hc1 => ?_)
  · simp only [decide_eq_true_eq] at hc1
    obtain ⟨c, hcc⟩ : ∃ c, c = s.getD (p + i) 0 := ⟨_, rfl⟩
    have hpi : ((p : Int) + (i : Int)).toNat = p + i := by omega
    have hsh : (c.toNat : Int) * 2 ^ min (8 * (i : Int)).toNat 64 = ((c.toNat * 256 ^ i : Nat) : Int) := by
      have h1 : min (8 * (i : Int)).toNat 64 = 8 * i := by omega
      rw [h1, Int.natCast_mul, Int.natCast_pow, Int.pow_mul]; rfl
    have hor : bits BinOp.or IntKind.i64 (IntKind.i64.wrap (Vint.numS s p i : Int)) (IntKind.i64.wrap ((c.toNat * 256 ^ i : Nat) : Int)) = IntKind.i64.wrap (Vint.numS s p (i + 1) : Int) := by
      have hlt := Vint.numS_lt s p i
      rw [bits_or_wrap]
      congr 2
      rw [show 256 = 2 ^ 8 by rfl, ← Nat.pow_mul] at hlt ⊢
      rw [or_high _ _ _ hlt, Nat.pow_mul, hcc]; rfl
    simp -implicitDefEqProofs (disch := omega) only [go_sem, e0, e1, e8, e32, hpi, ← hcc, hsh, hor]
    refine hQ' _ _ _ (fun _ h => h) ⟨i + 1, by omega, ?_, ?_, ?_, ?_, ?_, rfl⟩ ?_
    · simp -implicitDefEqProofs (disch := omega) only [go_sem, e0]
    · simp -implicitDefEqProofs (disch := omega) only [go_sem, e1]
    · simp -implicitDefEqProofs (disch := omega) only [go_sem]
    · simp -implicitDefEqProofs (disch := omega) only [go_sem, e31]
    · simp -implicitDefEqProofs (disch := omega) only [go_sem]; rfl
    · simp -implicitDefEqProofs (disch := omega) only [go_sem, e32]; omega
  · simp only [decide_eq_false_iff_not] at hc1
    have hid : i = d := by omega
    subst hid
    have hlt := Vint.numS_lt s p i
    have hlt8 : Vint.numS s p i < 18446744073709551616 := Nat.lt_of_lt_of_le hlt (Nat.le_trans (Nat.pow_le_pow_right (by decide) hd8) (by decide))
    have hwr := IntKind.wrap_i64 (Vint.numS s p i : Int)
    simp -implicitDefEqProofs (disch := omega) only [go_sem, e8]
    refine RC_intro (fun hc2 => ?_) (fun hc2 => ?_)
    · simp only [decide_eq_true_eq] at hc2
      rw [if_pos (by omega)] at hQ
      simp -implicitDefEqProofs (disch := omega) only [go_sem]
      exact hQ _ _ fun w' hs => ⟨rfl, hs.anchor (by simp)⟩
    · simp only [decide_eq_false_iff_not] at hc2
      rw [if_neg (by omega)] at hQ
      simp -implicitDefEqProofs (disch := omega) only [go_sem, e8]
      exact hQ _ _ fun w' hs => ⟨rfl, hs.anchor (by simp)⟩

set_option maxRecDepth 20000 in
set_option maxHeartbeats 400000 in
theorem ref_number (s : List UInt8) (hsl : s.length ≤ 9223372036854775807) (at_ wd : Int) (ha : -9223372036854775808 ≤ at_ ∧ at_ ≤ 9223372036854775807) (w : World) : Does Try.prog 48 #[str s, .int .i64 at_, .int .i64 wd] w fun v w' => v = .tuple #[.int .i64 (Vint.number s at_ wd).1, .int .i64 (Vint.number s at_ wd).2] ∧ Ext [] w w' := by
  refine does (args := [str s, .int .i64 at_, .int .i64 wd]) Try.func48 rfl (by kernel_rfl) (by kernel_rfl) rfl ent_48 (Sat.start w []) ?_; intro QV hQ
  simp -implicitDefEqProofs (disch := omega) only [go_sem]
  refine RCall_eq (ref_wide _) ?_
  by_cases hw : (wd = 1 ∨ wd = 2 ∨ wd = 4 ∨ wd = 8)
  rotate_left
  · simp -implicitDefEqProofs (disch := omega) only [go_sem, decide_eq_false hw]
    exact hQ _ _ fun w' hs => ⟨by simp only [Vint.number, Vint.wide, hw, not_false_eq_true, true_or, if_true], hs.anchor (by simp)⟩
  by_cases hc : at_ < 0
  · simp -implicitDefEqProofs (disch := omega) only [go_sem, decide_eq_true hw, decide_eq_true hc]
    exact hQ _ _ fun w' hs => ⟨by simp only [Vint.number, Vint.wide, hc, or_true, if_true], hs.anchor (by simp)⟩
  have hn1 : ¬ (¬ Vint.wide wd ∨ at_ < 0) := by unfold Vint.wide; omega
  by_cases hl1 : (s.length : Int) < at_
  · simp -implicitDefEqProofs (disch := omega) only [go_sem, decide_eq_true hw, decide_eq_false hc, hl1, decide_true]
    exact hQ _ _ fun w' hs => ⟨by simp only [Vint.number, if_neg hn1, hl1, true_or, if_true], hs.anchor (by simp)⟩
  by_cases hl2 : (s.length : Int) - at_ < wd
  · simp -implicitDefEqProofs (disch := omega) only [go_sem, decide_eq_true hw, decide_eq_false hc, hl1, hl2, decide_true, decide_false]
    exact hQ _ _ fun w' hs => ⟨by simp only [Vint.number, if_neg hn1, hl2, or_true, if_true], hs.anchor (by simp)⟩
  obtain ⟨p, rfl⟩ := Int.eq_ofNat_of_zero_le (show 0 ≤ at_ by omega)
  obtain ⟨d, rfl⟩ := Int.eq_ofNat_of_zero_le (show 0 ≤ wd by omega)
  have hd8 : d ≤ 8 := by omega
  have hv : Vint.number s (p : Int) (d : Int) = if 9223372036854775808 ≤ Vint.numS s p d then (0, 18) else ((Vint.numS s p d : Int), 0) := by
    unfold Vint.number; rw [if_neg hn1, if_neg (by omega)]; rfl
  rw [hv] at hQ
  simp -implicitDefEqProofs (disch := omega) only [go_sem, decide_eq_true hw, decide_eq_false hc, hl1, hl2, decide_false]
  refine RLoop_intro (fun f h => ∃ i u : Nat, i ≤ d ∧ u < 256 ^ (d - i) ∧ u * 256 ^ i + Vint.numS s p i = Vint.numS s p d ∧ f 0 = str s ∧ f 1 = .int .i64 (p : Int) ∧ f 8 = .int .u64 (u : Int) ∧ f 9 = .int .i64 ((i : Int) - 1) ∧ h = [.anchor w []]) (fun f _ => (1 + ival (f 9)).toNat) ?_ ?_
  · exact ⟨d, 0, by omega, by simp, by omega, by simp -implicitDefEqProofs (disch := omega) only [go_sem], by simp -implicitDefEqProofs (disch := omega) only [go_sem], by simp -implicitDefEqProofs (disch := omega) only [go_sem]; rfl, by simp -implicitDefEqProofs (disch := omega) only [go_sem], rfl⟩
  rintro f h ⟨i, u, hi, hu, hs, e0, e1, e8, e9, rfl⟩ Q' hQ'
  simp -implicitDefEqProofs (disch := omega) only [go_sem, e9]
  refine RC_intro (fun hc1 => ?_) (fun hc1 => ?_)
  · simp only [decide_eq_true_eq] at hc1
    obtain ⟨j, rfl⟩ : ∃ j, i = j + 1 := ⟨i - 1, by omega⟩
    obtain ⟨c, hcc⟩ : ∃ c, c = s.getD (p + j) 0 := ⟨_, rfl⟩
    have hpi : ((p : Int) + (((j + 1 : Nat) : Int) - 1)).toNat = p + j := by omega
    have hu8 : u < 72057594037927936 := Nat.lt_of_lt_of_le hu (Nat.le_trans (Nat.pow_le_pow_right (by decide) (show d - (j + 1) ≤ 7 by omega)) (by decide))
    have hc8 := c.toNat_lt
    simp -implicitDefEqProofs (disch := omega) only [go_sem, e0, e1, e8, e9, hpi, ← hcc]
    refine hQ' _ _ _ (fun _ h => h) ⟨j, 256 * u + c.toNat, by omega, ?_, ?_, ?_, ?_, ?_, ?_, rfl⟩ ?_
    · rw [show d - j = (d - (j + 1)) + 1 by omega, Nat.pow_succ]; omega
    · rw [← hs]; simp only [Vint.numS, ← hcc, Nat.pow_succ, Nat.add_mul]
      rw [show u * (256 ^ j * 256) = 256 * u * 256 ^ j by rw [Nat.mul_comm (256 ^ j), ← Nat.mul_assoc, Nat.mul_comm u]]; omega
    · simp -implicitDefEqProofs (disch := omega) only [go_sem, e0]
    · simp -implicitDefEqProofs (disch := omega) only [go_sem, e1]
    · simp -implicitDefEqProofs (disch := omega) only [go_sem]; rw [Int.natCast_add, Int.natCast_mul]; rfl
    · simp -implicitDefEqProofs (disch := omega) only [go_sem]; congr 1; omega
    · simp -implicitDefEqProofs (disch := omega) only [go_sem, e9]; omega
  · simp only [decide_eq_false_iff_not] at hc1
    have hi0 : i = 0 := by omega
    subst hi0
    have hu0 : u = Vint.numS s p d := by rw [← hs]; simp [Vint.numS]
    rw [← hu0] at hQ
    have hu8 : u < 18446744073709551616 := Nat.lt_of_lt_of_le hu (Nat.le_trans (Nat.pow_le_pow_right (by decide) (show d - 0 ≤ 8 by omega)) (by decide))
    simp -implicitDefEqProofs (disch := omega) only [go_sem, e8]
    refine RC_intro (fun hc2 => ?_) (fun hc2 => ?_)
    · simp only [decide_eq_true_eq] at hc2
      rw [if_pos (by omega)] at hQ
      simp -implicitDefEqProofs (disch := omega) only [go_sem]
      exact hQ _ _ fun w' hs => ⟨rfl, hs.anchor (by simp)⟩
    · simp only [decide_eq_false_iff_not] at hc2
      rw [if_neg (by omega)] at hQ
      simp -implicitDefEqProofs (disch := omega) only [go_sem, e8]
      exact hQ _ _ fun w' hs => ⟨rfl, hs.anchor (by simp)⟩
end Go.Proofs.Ytldidoaagijnhaa
