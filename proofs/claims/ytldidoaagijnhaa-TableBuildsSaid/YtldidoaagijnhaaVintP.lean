/- Plain laws of short and fixed numbers. -/
import Derived.Test.YtldidoaagijnhaaVintM
namespace Go.Proofs.Ytldidoaagijnhaa
set_option linter.unusedSimpArgs false
set_option linter.unusedVariables false
namespace Vint
theorem getK_err (s : List UInt8) (p : Nat) : ∀ (j i n : Nat), (getK s p j i n).2.2 ≠ 0 → (getK s p j i n).1 = 0 ∧ (getK s p j i n).2.1 = 0
  | 0, _, _, _ => ⟨rfl, rfl⟩
  | j + 1, i, n, h => by
    simp only [getK] at h ⊢
    split
    · exact ⟨rfl, rfl⟩
    · rename_i h1
      rw [if_neg h1] at h
      split
      · rename_i h2
        rw [if_pos h2] at h
        split
        · exact ⟨rfl, rfl⟩
        · rename_i h3
          rw [if_neg h3] at h
          exact absurd rfl h
      · rename_i h2
        rw [if_neg h2] at h
        exact getK_err s p j (i + 1) _ h
theorem get_err (s : List UInt8) (a : Int) (h : (get s a).2.2 ≠ 0) : (get s a).1 = 0 ∧ (get s a).2.1 = 0 := by
  unfold get at h ⊢
  split
  · exact ⟨rfl, rfl⟩
  · rename_i h0
    rw [if_neg h0] at h
    exact getK_err s _ 9 0 0 h
theorem drop_cons (s : List UInt8) (k : Nat) (h : k < s.length) : s.drop k = s.getD k 0 :: s.drop (k + 1) := by
  rw [List.drop_eq_getElem_cons h, List.getD_eq_getElem?_getD, List.getElem?_eq_getElem h]; rfl
/-- What is read is laid down in just these bytes. -/
theorem getK_put (s : List UInt8) (p : Nat) : ∀ (j i n m t : Nat), getK s p j i n = ((m : Int), (t : Int), 0) → p + i < t →
    ∃ v, m = n + v * 128 ^ i ∧ (s.drop (p + i)).take (t - (p + i)) = putL v ∧ (0 < i → 0 < v)
  | 0, i, n, m, t, h, _ => by simp [getK] at h
  | j + 1, i, n, m, t, h, hpt => by
    simp only [getK] at h
    split at h
    · simp at h
    · rename_i h1
      obtain ⟨c, hc⟩ : ∃ c, c = s.getD (p + i) 0 := ⟨_, rfl⟩
      rw [← hc] at h
      have hd := drop_cons s (p + i) (by omega)
      rw [← hc] at hd
      have hc8 := c.toNat_lt
      split at h
      · rename_i h2
        split at h
        · simp at h
        · rename_i h3
          simp only [Prod.mk.injEq, Int.natCast_inj, and_true] at h
          refine ⟨c.toNat, ?_, ?_, fun hi => ?_⟩
          · rw [← h.1, Nat.mod_eq_of_lt h2]
          · rw [putL_small _ h2, hd, show t - (p + i) = 1 by omega]; simp
          · omega
      · rename_i h2
        by_cases ht : p + (i + 1) < t
        · obtain ⟨v, e1, e2, e3⟩ := getK_put s p j (i + 1) _ m t h ht
          have hv := e3 (by omega)
          refine ⟨c.toNat % 128 + 128 * v, ?_, ?_, fun _ => by omega⟩
          · rw [e1, Nat.pow_succ, Nat.add_mul]
            rw [show v * (128 ^ i * 128) = 128 * v * 128 ^ i by rw [Nat.mul_comm (128 ^ i), ← Nat.mul_assoc, Nat.mul_comm v]]; omega
          · rw [putL_big _ (by omega), hd, show t - (p + i) = (t - (p + (i + 1))) + 1 by omega, List.take_succ_cons, show p + i + 1 = p + (i + 1) by omega, e2]
            congr 1
            · apply UInt8.toNat_inj.1
              rw [UInt8.toNat_ofNat']; omega
            · congr 1; omega
        · exfalso
          have hh : (getK s p j (i + 1) (n + c.toNat % 128 * 128 ^ i)).2.2 = 0 := by rw [h]
          have hpos : ∀ (j i n : Nat) , (getK s p j i n).2.2 = 0 → (p : Int) + i < (getK s p j i n).2.1 := by
            intro j
            induction j with
            | zero => intro i n h; simp [getK] at h
            | succ j ih =>
              intro i n h
              simp only [getK] at h ⊢
              split
              · rename_i h1; rw [if_pos h1] at h; simp at h
              · rename_i h1
                rw [if_neg h1] at h
                split
                · rename_i h2
                  rw [if_pos h2] at h
                  split
                  · rename_i h3; rw [if_pos h3] at h; simp at h
                  · simp only []; omega
                · rename_i h2
                  rw [if_neg h2] at h
                  have := ih _ _ h
                  omega
          have := hpos _ _ _ hh
          rw [h] at this
          simp only [] at this
          omega
/-- What was laid down is read. -/
theorem getK_back (s r : List UInt8) (p : Nat) : ∀ (j i n v : Nat), s.drop (p + i) = putL v ++ r → (putL v).length ≤ j → (0 < i → 0 < v) → getK s p j i n = (((n + v * 128 ^ i : Nat) : Int), ((p + i + (putL v).length : Nat) : Int), 0)
  | 0, i, n, v, _, hj, _ => by
    by_cases h : v < 128
    · rw [putL_small v h] at hj; simp at hj
    · rw [putL_big v h] at hj; simp at hj
  | j + 1, i, n, v, hs, hj, hv => by
    have hlen : p + i < s.length := by
      have := congrArg List.length hs
      simp only [List.length_drop, List.length_append] at this
      have : 0 < (putL v).length := by
        by_cases h : v < 128
        · rw [putL_small v h]; simp
        · rw [putL_big v h]; simp
      omega
    rw [drop_cons s (p + i) hlen] at hs
    simp only [getK]
    rw [if_neg (by omega)]
    by_cases h : v < 128
    · rw [putL_small v h] at hs ⊢
      simp only [List.singleton_append, List.cons.injEq] at hs
      have hc : (s.getD (p + i) 0).toNat = v := by rw [hs.1, UInt8.toNat_ofNat']; omega
      rw [hc, if_pos h, if_neg (by omega), Nat.mod_eq_of_lt h]
      rfl
    · rw [putL_big v h] at hs hj ⊢
      simp only [List.cons_append, List.cons.injEq] at hs
      have hc : (s.getD (p + i) 0).toNat = v % 128 + 128 := by rw [hs.1, UInt8.toNat_ofNat']; omega
      rw [hc, if_neg (by omega), getK_back s r p j (i + 1) _ (v / 128) (by rw [← hs.2]; rfl) (by simpa using hj) (by omega)]
      have e1 : n + (v % 128 + 128) % 128 * 128 ^ i + v / 128 * 128 ^ (i + 1) = n + v * 128 ^ i := by
        rw [Nat.pow_succ, show v / 128 * (128 ^ i * 128) = (128 * (v / 128)) * 128 ^ i by rw [Nat.mul_comm (128 ^ i), ← Nat.mul_assoc, Nat.mul_comm (v / 128)], Nat.add_assoc, ← Nat.add_mul]
        congr 2; omega
      have e2 : p + (i + 1) + (putL (v / 128)).length = p + i + (UInt8.ofNat (v % 128 + 128) :: putL (v / 128)).length := by simp only [List.length_cons]; omega
      rw [e1, e2]
theorem numS_back (s : List UInt8) (p m : Nat) : ∀ k, (∀ i, i < k → s.getD (p + i) 0 = UInt8.ofNat (m / 256 ^ i % 256)) → numS s p k = m % 256 ^ k
  | 0, _ => by simp [numS, Nat.mod_one]
  | k + 1, h => by
    simp only [numS]
    rw [numS_back s p m k fun i hi => h i (by omega), h k (by omega), UInt8.toNat_ofNat']
    have : m / 256 ^ k % 256 % 2 ^ 8 = m / 256 ^ k % 256 := Nat.mod_eq_of_lt (by omega)
    rw [this, Nat.mul_comm]
    exact (Nat.mod_pow_succ).symm
theorem fix_at (a c : List UInt8) (d m i : Nat) (hi : i < d) : (a ++ fixL d m ++ c).getD (a.length + i) 0 = UInt8.ofNat (m / 256 ^ i % 256) := by
  rw [List.getD_eq_getElem?_getD, List.append_assoc, List.getElem?_append_right (by omega), Nat.add_sub_cancel_left, List.getElem?_append_left (by rw [fixL_len]; exact hi), fixL_get d m i hi]
  rfl
theorem number_back (a c : List UInt8) (d m : Nat) (hw : wide (d : Int)) (hm : m / 256 ^ d = 0) (h63 : m < 9223372036854775808) : number (a ++ fixL d m ++ c) (a.length : Int) (d : Int) = ((m : Int), 0) := by
  have hl : (a ++ fixL d m ++ c).length = a.length + d + c.length := by simp [fixL_len]; omega
  have hn : numS (a ++ fixL d m ++ c) a.length d = m := by
    rw [numS_back _ _ m d fun i hi => fix_at a c d m i hi, Nat.mod_eq_of_lt]
    exact (Nat.div_eq_zero_iff.1 hm).resolve_left (Nat.pos_iff_ne_zero.1 (Nat.pow_pos (by decide)))
  unfold number
  rw [if_neg (by simp [hw]), if_neg (by omega), Int.toNat_natCast, Int.toNat_natCast, hn, if_neg (by omega)]
theorem get_back (a c : List UInt8) (m : Nat) (hm : m < 9223372036854775808) : get (a ++ putL m ++ c) (a.length : Int) = ((m : Int), ((a.length + (putL m).length : Nat) : Int), 0) := by
  have h := getK_back (a ++ putL m ++ c) c a.length 9 0 0 m (by rw [Nat.add_zero, List.append_assoc, List.drop_left]) (putL_len9 m hm) (by omega)
  unfold get
  rw [if_neg (by omega), Int.toNat_natCast, h]
  simp
theorem putL_pos (n : Nat) : 0 < (putL n).length := by
  by_cases h : n < 128
  · rw [putL_small n h]; simp
  · rw [putL_big n h]; simp
end Vint
end Go.Proofs.Ytldidoaagijnhaa
