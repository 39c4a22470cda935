/- vint's reading and its reference: the walks. -/
import Derived.Test.YtldidoaagijnhaaVint
namespace Go.Proofs.Ytldidoaagijnhaa
set_option linter.unusedSimpArgs false
set_option linter.unusedVariables false
open H
set_option maxRecDepth 20000 in
set_option maxHeartbeats 400000 in
theorem ref_get (s : List UInt8) (hsl : s.length ≤ 9223372036854775807) (at_ : Int) (ha : -9223372036854775808 ≤ at_ ∧ at_ ≤ 9223372036854775807) (w : World) : Does Try.prog 67 #[str s, .int .i64 at_] w fun v w' => v = .tuple #[.int .i64 (Vint.get s at_).1, .int .i64 (Vint.get s at_).2.1, .int .i64 (Vint.get s at_).2.2] ∧ Ext [] w w' := by
  refine does (args := [str s, .int .i64 at_]) Try.func67 rfl (by kernel_rfl) (by kernel_rfl) rfl ent_67 (Sat.start w []) ?_; intro QV hQ
  by_cases h0 : at_ < 0
  · simp -implicitDefEqProofs (disch := omega) only [go_sem, h0, decide_true]
    exact hQ _ _ fun w' hs => ⟨by simp only [Vint.get, if_pos h0], hs.anchor (by simp)⟩
  obtain ⟨p, rfl⟩ := Int.eq_ofNat_of_zero_le (show 0 ≤ at_ by omega)
  have hg : Vint.get s (p : Int) = Vint.getK s p 9 0 0 := by unfold Vint.get; rw [if_neg h0]; rfl
  rw [hg] at hQ
  obtain ⟨G, hG⟩ : ∃ G, G = Vint.getK s p 9 0 0 := ⟨_, rfl⟩
  rw [← hG] at hQ
  simp -implicitDefEqProofs (disch := omega) only [go_sem, h0, decide_false]
  refine RLoop_intro (fun f h => ∃ (i n : Nat) (u : Int), i ≤ 9 ∧ n < 128 ^ i ∧ (i < 9 → u = ((128 ^ i : Nat) : Int)) ∧ Vint.getK s p (9 - i) i n = G ∧ f 0 = str s ∧ f 1 = .int .i64 (p : Int) ∧ f 7 = .int .i64 (n : Int) ∧ f 8 = .int .i64 u ∧ f 9 = .int .i64 (i : Int) ∧
    h = [.anchor w []]) (fun f _ => (9 - ival (f 9)).toNat) ?_ ?_
  · exact ⟨0, 0, 1, by omega, by omega, fun _ => rfl, hG.symm, by simp -implicitDefEqProofs (disch := omega) only [go_sem], by simp -implicitDefEqProofs (disch := omega) only [go_sem], by simp -implicitDefEqProofs (disch := omega) only [go_sem]; rfl, by simp -implicitDefEqProofs (disch := omega) only [go_sem], by simp -implicitDefEqProofs (disch := omega) only [go_sem]; rfl, rfl⟩
  rintro f h ⟨i, n, u, hi, hn, hu, hK, e0, e1, e7, e8, e9, rfl⟩ Q' hQ'
  simp -implicitDefEqProofs (disch := omega) only [go_sem, e9]
  refine RC_intro (fun hc => ?_) (fun hc => ?_)
  rotate_left
  · simp only [decide_eq_false_iff_not] at hc
    have hi9 : i = 9 := by omega
    subst hi9
    rw [← hK] at hQ
    simp -implicitDefEqProofs (disch := omega) only [go_sem]
    exact hQ _ _ fun w' hs => ⟨rfl, hs.anchor (by simp)⟩
  simp only [decide_eq_true_eq] at hc
  obtain ⟨j, hj⟩ : ∃ j, 9 - i = j + 1 := ⟨8 - i, by omega⟩
  rw [hj] at hK
  simp only [Vint.getK] at hK
  simp -implicitDefEqProofs (disch := omega) only [go_sem, e0, e1, e9]
  refine RC_intro (fun hc1 => ?_) (fun hc1 => ?_)
  · simp only [decide_eq_true_eq] at hc1
    rw [if_pos (by omega)] at hK
    rw [← hK] at hQ
    simp -implicitDefEqProofs (disch := omega) only [go_sem]
    exact hQ _ _ fun w' hs => ⟨rfl, hs.anchor (by simp)⟩
  simp only [decide_eq_false_iff_not] at hc1
  rw [if_neg (by omega)] at hK
  obtain ⟨P, hP⟩ : ∃ P, P = 128 ^ i := ⟨_, rfl⟩
  have hu' : u = (P : Int) := by rw [hP]; exact hu (by omega)
  subst hu'
  obtain ⟨c, hcc⟩ : ∃ c, c = s.getD (p + i) 0 := ⟨_, rfl⟩
  obtain ⟨r, hr⟩ : ∃ r, r = c.toNat % 128 := ⟨_, rfl⟩
  obtain ⟨t, ht⟩ : ∃ t, t = r * P := ⟨_, rfl⟩
  have hpi : ((p : Int) + (i : Int)).toNat = p + i := by omega
  have hrem : ((c.toNat : Nat) : Int).tmod 128 = (r : Int) := by rw [Int.tmod_eq_emod_of_nonneg (by omega), hr]; omega
  have hmul : (r : Int) * (P : Int) = (t : Int) := by rw [ht]; exact (Int.natCast_mul r P).symm
  have hPb : P ≤ 72057594037927936 := by rw [hP]; exact Nat.le_trans (Nat.pow_le_pow_right (by decide) (show i ≤ 8 by omega)) (by decide)
  have htb : t ≤ 127 * P := by rw [ht]; exact Nat.mul_le_mul_right _ (by omega)
  rw [← hP] at hn
  have hn' : n + t < 128 ^ (i + 1) := by rw [Nat.pow_succ, ← hP]; omega
  rw [← hcc, ← hr, ← hP, ← ht] at hK
  have hc8 := c.toNat_lt
  simp -implicitDefEqProofs (disch := omega) only [go_sem, e0, e1, e9, e7, e8, hpi, ← hcc, hrem, hmul]
  refine RC_intro (fun hc2 => ?_) (fun hc2 => ?_)
  · simp only [decide_eq_true_eq] at hc2
    rw [if_pos (by omega)] at hK
    by_cases hz : (c.toNat : Int) = 0
    · by_cases hi0 : (0 : Int) < i
      · rw [if_pos (by omega)] at hK
        rw [← hK] at hQ
        simp -implicitDefEqProofs (disch := omega) only [go_sem, e9, hz, hi0, decide_true]
        exact hQ _ _ fun w' hs => ⟨rfl, hs.anchor (by simp)⟩
      · rw [if_neg (by omega)] at hK
        rw [← hK] at hQ
        simp -implicitDefEqProofs (disch := omega) only [go_sem, e9, e1, hz, hi0, decide_true, decide_false]
        exact hQ _ _ fun w' hs => ⟨by push_cast; rfl, hs.anchor (by simp)⟩
    · rw [if_neg (by omega)] at hK
      rw [← hK] at hQ
      simp -implicitDefEqProofs (disch := omega) only [go_sem, e9, e1, hz, decide_false]
      exact hQ _ _ fun w' hs => ⟨by push_cast; rfl, hs.anchor (by simp)⟩
  · simp only [decide_eq_false_iff_not] at hc2
    rw [if_neg (by omega)] at hK
    simp -implicitDefEqProofs (disch := omega) only [go_sem, e8, e9]
    refine hQ' _ _ _ (fun _ h => h) ⟨i + 1, n + t, IntKind.i64.wrap ((P : Int) * 128), by omega, hn', ?_, ?_, ?_, ?_, ?_, ?_, ?_, rfl⟩ ?_
    · intro h9
      have : P ≤ 562949953421312 := by rw [hP]; exact Nat.le_trans (Nat.pow_le_pow_right (by decide) (show i ≤ 7 by omega)) (by decide)
      rw [Nat.pow_succ, ← hP, IntKind.wrap_i64]; omega
    · rw [show 9 - (i + 1) = j by omega]; exact hK
    · simp -implicitDefEqProofs (disch := omega) only [go_sem, e0]
    · simp -implicitDefEqProofs (disch := omega) only [go_sem, e1]
    · simp -implicitDefEqProofs (disch := omega) only [go_sem]; rw [Int.natCast_add]
    · simp -implicitDefEqProofs (disch := omega) only [go_sem]
    · simp -implicitDefEqProofs (disch := omega) only [go_sem]; rfl
    · simp -implicitDefEqProofs (disch := omega) only [go_sem, e9]; omega

theorem or_high (a b k : Nat) (h : a < 2 ^ k) : a ||| b * 2 ^ k = a + b * 2 ^ k := by
  have := Nat.two_pow_add_eq_or_of_lt h b
  rw [Nat.mul_comm b, Nat.or_comm, ← this]; omega
theorem bits_or_nat (a b : Nat) (ha : a < 9223372036854775808) (hb : b < 9223372036854775808) : bits BinOp.or IntKind.i64 (a : Int) (b : Int) = ((a ||| b : Nat) : Int) := by
  have hab : a ||| b < 2 ^ 63 := Nat.or_lt_two_pow (by omega) (by omega)
  have h1 : (BitVec.ofInt 64 (a : Int) ||| BitVec.ofInt 64 (b : Int)).toNat = a ||| b := by
    rw [BitVec.ofInt_natCast, BitVec.ofInt_natCast, BitVec.toNat_or, BitVec.toNat_ofNat, BitVec.toNat_ofNat, Nat.mod_eq_of_lt (by omega), Nat.mod_eq_of_lt (by omega)]
  show IntKind.i64.wrap ((BitVec.ofInt 64 (a : Int) ||| BitVec.ofInt 64 (b : Int)).toNat : Int) = _
  rw [h1, IntKind.wrap_i64]; omega
theorem low7 (c : UInt8) : (c &&& ~~~128).toNat = c.toNat % 128 := by
  have key : ∀ k : Nat, k < 256 → (UInt8.ofNat k &&& ~~~128).toNat = k % 128 := by decide +kernel
  have h := key c.toNat c.toNat_lt
  rwa [show UInt8.ofNat c.toNat = c by simp] at h
set_option maxRecDepth 20000 in
set_option maxHeartbeats 400000 in
theorem vint_get (s : List UInt8) (hsl : s.length ≤ 9223372036854775807) (at_ : Int) (ha : -9223372036854775808 ≤ at_ ∧ at_ ≤ 9223372036854775807) (w : World) : Does Try.prog 79 #[str s, .int .i64 at_] w fun v w' => v = .tuple #[.int .i64 (Vint.get s at_).1, .int .i64 (Vint.get s at_).2.1, .int .i64 (Vint.get s at_).2.2] ∧ Ext [] w w' := by
  refine does (args := [str s, .int .i64 at_]) Try.func79 rfl (by kernel_rfl) (by kernel_rfl) rfl ent_79 (Sat.start w []) ?_; intro QV hQ
  by_cases h0 : at_ < 0
  · simp -implicitDefEqProofs (disch := omega) only [go_sem, h0, decide_true]
    exact hQ _ _ fun w' hs => ⟨by simp only [Vint.get, if_pos h0], hs.anchor (by simp)⟩
  obtain ⟨p, rfl⟩ := Int.eq_ofNat_of_zero_le (show 0 ≤ at_ by omega)
  have hg : Vint.get s (p : Int) = Vint.getK s p 9 0 0 := by unfold Vint.get; rw [if_neg h0]; rfl
  rw [hg] at hQ
  obtain ⟨G, hG⟩ : ∃ G, G = Vint.getK s p 9 0 0 := ⟨_, rfl⟩
  rw [← hG] at hQ
  simp -implicitDefEqProofs (disch := omega) only [go_sem, h0, decide_false]
  refine RLoop_intro (fun f h => ∃ (i n : Nat), i ≤ 9 ∧ n < 128 ^ i ∧ Vint.getK s p (9 - i) i n = G ∧ f 0 = str s ∧ f 1 = .int .i64 (p : Int) ∧ f 7 = .int .i64 (n : Int) ∧ f 8 = .int .i64 (i : Int) ∧
    h = [.anchor w []]) (fun f _ => (9 - ival (f 8)).toNat) ?_ ?_
  · exact ⟨0, 0, by omega, by omega, hG.symm, by simp -implicitDefEqProofs (disch := omega) only [go_sem], by simp -implicitDefEqProofs (disch := omega) only [go_sem], by simp -implicitDefEqProofs (disch := omega) only [go_sem]; rfl, by simp -implicitDefEqProofs (disch := omega) only [go_sem]; rfl, rfl⟩
  rintro f h ⟨i, n, hi, hn, hK, e0, e1, e7, e9, rfl⟩ Q' hQ'
  by_cases hc : (i : Int) = 9
  · have hi9 : i = 9 := by omega
    subst hi9
    rw [← hK] at hQ
    simp -implicitDefEqProofs (disch := omega) only [go_sem, e9]
    exact hQ _ _ fun w' hs => ⟨rfl, hs.anchor (by simp)⟩
  obtain ⟨j, hj⟩ : ∃ j, 9 - i = j + 1 := ⟨8 - i, by omega⟩
  rw [hj] at hK
  simp only [Vint.getK] at hK
  simp -implicitDefEqProofs (disch := omega) only [go_sem, e0, e1, e9, hc, decide_false]
  refine RC_intro (fun hc1 => ?_) (fun hc1 => ?_)
  · simp only [decide_eq_true_eq] at hc1
    rw [if_pos (by omega)] at hK
    rw [← hK] at hQ
    simp -implicitDefEqProofs (disch := omega) only [go_sem]
    exact hQ _ _ fun w' hs => ⟨rfl, hs.anchor (by simp)⟩
  simp only [decide_eq_false_iff_not] at hc1
  rw [if_neg (by omega)] at hK
  obtain ⟨P, hP⟩ : ∃ P, P = 128 ^ i := ⟨_, rfl⟩
  obtain ⟨c, hcc⟩ : ∃ c, c = s.getD (p + i) 0 := ⟨_, rfl⟩
  obtain ⟨r, hr⟩ : ∃ r, r = c.toNat % 128 := ⟨_, rfl⟩
  obtain ⟨t, ht⟩ : ∃ t, t = r * P := ⟨_, rfl⟩
  have hpi : ((p : Int) + (i : Int)).toNat = p + i := by omega
  have hlow : (c &&& ~~~128).toNat = r := by rw [low7, hr]
  have hPb : P ≤ 72057594037927936 := by rw [hP]; exact Nat.le_trans (Nat.pow_le_pow_right (by decide) (show i ≤ 8 by omega)) (by decide)
  have htb : t ≤ 127 * P := by rw [ht]; exact Nat.mul_le_mul_right _ (by omega)
  rw [← hP] at hn
  have hn' : n + t < 128 ^ (i + 1) := by rw [Nat.pow_succ, ← hP]; omega
  rw [← hcc, ← hr, ← hP, ← ht] at hK
  have hc8 := c.toNat_lt
  have hsh : (r : Int) * 2 ^ min (7 * (i : Int)).toNat 64 = (t : Int) := by
    have h1 : min (7 * (i : Int)).toNat 64 = 7 * i := by omega
    rw [h1, ht, hP, Int.natCast_mul, Int.natCast_pow, Int.pow_mul]; rfl
  have hor : bits BinOp.or IntKind.i64 (n : Int) (t : Int) = (n : Int) + (t : Int) := by
    rw [bits_or_nat n t (by omega) (by omega), ht, hP, show 128 = 2 ^ 7 by rfl, ← Nat.pow_mul, or_high n r (7 * i) (by rw [Nat.pow_mul]; rw [← show P = (2 ^ 7) ^ i from hP]; exact hn), Int.natCast_add]
  simp -implicitDefEqProofs (disch := omega) only [go_sem, e0, e1, e9, e7, hpi, ← hcc, hlow, hsh, hor]
  have hlt : c < 128 ↔ c.toNat < 128 := Iff.rfl
  refine RC_intro (fun hc2 => ?_) (fun hc2 => ?_)
  · simp only [decide_eq_true_eq, hlt] at hc2
    rw [if_pos hc2] at hK
    by_cases hz : c = 0
    · subst hz
      by_cases hi0 : (0 : Int) < i
      · rw [if_pos ⟨rfl, by omega⟩] at hK
        rw [← hK] at hQ
        simp -implicitDefEqProofs (disch := omega) only [go_sem, e9, hi0, decide_true]
        exact hQ _ _ fun w' hs => ⟨rfl, hs.anchor (by simp)⟩
      · rw [if_neg (by omega)] at hK
        rw [← hK] at hQ
        simp -implicitDefEqProofs (disch := omega) only [go_sem, e9, e1, hi0, decide_true, decide_false]
        exact hQ _ _ fun w' hs => ⟨by push_cast; rfl, hs.anchor (by simp)⟩
    · have hz' : ¬ c.toNat = 0 := fun h => hz (UInt8.toNat_inj.1 h)
      rw [if_neg (by omega)] at hK
      rw [← hK] at hQ
      simp -implicitDefEqProofs (disch := omega) only [go_sem, e9, e1, hz, decide_false]
      exact hQ _ _ fun w' hs => ⟨by push_cast; rfl, hs.anchor (by simp)⟩
  · simp only [decide_eq_false_iff_not, hlt] at hc2
    rw [if_neg hc2] at hK
    simp -implicitDefEqProofs (disch := omega) only [go_sem, e9]
    refine hQ' _ _ _ (fun _ h => h) ⟨i + 1, n + t, by omega, hn', ?_, ?_, ?_, ?_, ?_, rfl⟩ ?_
    · rw [show 9 - (i + 1) = j by omega]; exact hK
    · simp -implicitDefEqProofs (disch := omega) only [go_sem, e0]
    · simp -implicitDefEqProofs (disch := omega) only [go_sem, e1]
    · simp -implicitDefEqProofs (disch := omega) only [go_sem]; rw [Int.natCast_add]
    · simp -implicitDefEqProofs (disch := omega) only [go_sem]; rfl
    · simp -implicitDefEqProofs (disch := omega) only [go_sem, e9]; omega
end Go.Proofs.Ytldidoaagijnhaa
