/- Short and fixed numbers, as plain functions. -/
namespace Go.Proofs.Ytldidoaagijnhaa
set_option linter.unusedSimpArgs false
set_option linter.unusedVariables false
namespace Vint
def putL (n : Nat) : List UInt8 := if n < 128 then [UInt8.ofNat n] else UInt8.ofNat (n % 128 + 128) :: putL (n / 128)
termination_by n
decreasing_by omega
theorem putL_small (n : Nat) (h : n < 128) : putL n = [UInt8.ofNat n] := by rw [putL, if_pos h]
theorem putL_big (n : Nat) (h : ¬ n < 128) : putL n = UInt8.ofNat (n % 128 + 128) :: putL (n / 128) := by rw [putL, if_neg h]
theorem putL_len (k : Nat) : ∀ n, n < 128 ^ k → (putL n).length ≤ max k 1 := by
  induction k with
  | zero => intro n hn; rw [putL_small n (by simp at hn; omega)]; simp
  | succ k ih =>
    intro n hn
    by_cases h : n < 128
    · rw [putL_small n h]; simp
    · rw [putL_big n h]
      have h1 : n / 128 < 128 ^ k := by rw [Nat.pow_succ] at hn; omega
      have := ih _ h1
      have hk : 0 < k := by
        cases k with
        | zero => simp at hn; omega
        | succ k => omega
      simp only [List.length_cons]; omega
theorem putL_len9 (n : Nat) (hn : n < 9223372036854775808) : (putL n).length ≤ 9 := by
  have := putL_len 9 n (by simpa using hn)
  simpa using this
def put (n : Int) : List UInt8 × Int := if n < 0 then ([], 1) else (putL n.toNat, 0)
def wide (wd : Int) : Prop := wd = 1 ∨ wd = 2 ∨ wd = 4 ∨ wd = 8
instance (wd : Int) : Decidable (wide wd) := by unfold wide; infer_instance
/-- The k low bytes. -/
def fixL : Nat → Nat → List UInt8
  | 0, _ => []
  | k + 1, n => UInt8.ofNat (n % 256) :: fixL k (n / 256)
theorem fixL_len (k n : Nat) : (fixL k n).length = k := by
  induction k generalizing n with
  | zero => rfl
  | succ k ih => simp [fixL, ih]
def fixed (n wd : Int) : List UInt8 × Int := if ¬ wide wd ∨ n < 0 then ([], 1) else if n.toNat / 256 ^ wd.toNat = 0 then (fixL wd.toNat n.toNat, 0) else ([], 1)
theorem fixL_get : ∀ (d n i : Nat), i < d → (fixL d n)[i]? = some (UInt8.ofNat (n / 256 ^ i % 256))
  | d + 1, n, 0, _ => by simp [fixL]
  | d + 1, n, i + 1, h => by
    show (fixL d (n / 256))[i]? = _
    rw [fixL_get d (n / 256) i (by omega), Nat.div_div_eq_div_mul, Nat.pow_succ, Nat.mul_comm 256]
/-- The row while it is filled. -/
def fixR (d n i : Nat) : List UInt8 := (fixL d n).take i ++ List.replicate (d - i) 0
theorem fixR_len (d n i : Nat) (h : i ≤ d) : (fixR d n i).length = d := by
  simp [fixR, fixL_len]; omega
theorem fixR_set (d n i : Nat) (h : i < d) : (fixR d n i).set i (UInt8.ofNat (n / 256 ^ i % 256)) = fixR d n (i + 1) := by
  have hl : ((fixL d n).take i).length = i := by rw [List.length_take, fixL_len]; omega
  unfold fixR
  rw [List.set_append_right _ _ (by omega), hl, Nat.sub_self, show d - i = (d - (i + 1)) + 1 by omega, List.replicate_succ, List.set_cons_zero]
  rw [List.take_add_one, fixL_get d n i h]
  simp
theorem fixR_all (d n : Nat) : fixR d n d = fixL d n := by
  unfold fixR
  rw [Nat.sub_self, List.take_of_length_le (by rw [fixL_len]; exact Nat.le_refl _)]
  simp
/-- A short number read on: so many bytes may come, i have been read, and give n. -/
def getK (s : List UInt8) (p : Nat) : Nat → Nat → Nat → Int × Int × Int
  | 0, _, _ => (0, 0, 4)
  | j + 1, i, n => if s.length ≤ p + i then (0, 0, 2) else
    if (s.getD (p + i) 0).toNat < 128 then (if (s.getD (p + i) 0).toNat = 0 ∧ 0 < i then (0, 0, 4) else ((n + (s.getD (p + i) 0).toNat % 128 * 128 ^ i : Nat), (p + i + 1 : Nat), 0))
    else getK s p j (i + 1) (n + (s.getD (p + i) 0).toNat % 128 * 128 ^ i)
def get (s : List UInt8) (at_ : Int) : Int × Int × Int := if at_ < 0 then (0, 0, 1) else getK s at_.toNat 9 0 0
theorem getK_ok (s : List UInt8) (p : Nat) : ∀ (j i n : Nat), n < 128 ^ i → (getK s p j i n).2.2 = 0 →
    ∃ m t : Nat, getK s p j i n = ((m : Int), (t : Int), 0) ∧ t ≤ s.length ∧ p + i < t ∧ m < 128 ^ (i + j) ∧ t ≤ p + i + j
  | 0, i, n, _, h => by simp [getK] at h
  | j + 1, i, n, hn, h => by
    have hr : (s.getD (p + i) 0).toNat % 128 * 128 ^ i ≤ 127 * 128 ^ i := Nat.mul_le_mul_right _ (by omega)
    have hn' : n + (s.getD (p + i) 0).toNat % 128 * 128 ^ i < 128 ^ (i + 1) := by rw [Nat.pow_succ]; omega
    simp only [getK] at h ⊢
    split at h
    · simp at h
    · rename_i h1
      rw [if_neg h1]
      split at h
      · rename_i h2
        rw [if_pos h2]
        split at h
        · simp at h
        · rename_i h3
          rw [if_neg h3]
          exact ⟨_, p + i + 1, rfl, by omega, by omega, Nat.lt_of_lt_of_le hn' (Nat.pow_le_pow_right (by decide) (by omega)), by omega⟩
      · rename_i h2
        rw [if_neg h2]
        obtain ⟨m, t, e, h4, h5, h6, h7⟩ := getK_ok s p j (i + 1) _ hn' h
        exact ⟨m, t, e, h4, by omega, by rw [show i + (j + 1) = i + 1 + j by omega]; exact h6, by omega⟩
theorem get_ok (s : List UInt8) (a : Int) (h : (get s a).2.2 = 0) : ∃ m t : Nat, get s a = ((m : Int), (t : Int), 0) ∧ t ≤ s.length ∧ 0 ≤ a ∧ a < t ∧ m < 9223372036854775808 ∧ (t : Int) ≤ a + 9 := by
  unfold get at h ⊢
  split at h
  · simp at h
  · rename_i h0
    rw [if_neg h0]
    obtain ⟨m, t, e, h1, h2, h3, h4⟩ := getK_ok s a.toNat 9 0 0 (by decide) h
    exact ⟨m, t, e, h1, by omega, by omega, by simpa using h3, by omega⟩
def text (s : List UInt8) : List UInt8 := putL s.length ++ s
def next (s : List UInt8) (a : Int) : List UInt8 × Int × Int :=
  if (get s a).2.2 = 0 then (if (s.length : Int) - (get s a).2.1 < (get s a).1 then ([], 0, 2) else ((s.drop (get s a).2.1.toNat).take (get s a).1.toNat, (get s a).2.1 + (get s a).1, 0)) else ([], 0, (get s a).2.2)
/-- The number of the first k bytes from p. -/
def numS (s : List UInt8) (p : Nat) : Nat → Nat
  | 0 => 0
  | k + 1 => numS s p k + (s.getD (p + k) 0).toNat * 256 ^ k
theorem numS_lt (s : List UInt8) (p k : Nat) : numS s p k < 256 ^ k := by
  induction k with
  | zero => simp [numS]
  | succ k ih =>
    have h : (s.getD (p + k) 0).toNat < 256 := UInt8.toNat_lt _
    have : (s.getD (p + k) 0).toNat * 256 ^ k ≤ 255 * 256 ^ k := Nat.mul_le_mul_right _ (by omega)
    simp only [numS, Nat.pow_succ]; omega
def number (s : List UInt8) (at_ wd : Int) : Int × Int :=
  if ¬ wide wd ∨ at_ < 0 then (0, 1) else if (s.length : Int) < at_ ∨ (s.length : Int) - at_ < wd then (0, 2) else
  if 9223372036854775808 ≤ numS s at_.toNat wd.toNat then (0, 18) else ((numS s at_.toNat wd.toNat : Int), 0)
end Vint
end Go.Proofs.Ytldidoaagijnhaa
