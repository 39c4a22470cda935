/- crc's turned bits: the walk. -/
import Derived.Test.YtmbenaehnmdbgaaCrcL
import Derived.Test.YtmbenaehnmdbgaaCount
import Derived.Test.YtmbenaehnmdbgaaSeq
import Derived.Test.YtmbenaehnmdbgaaCrcB
namespace Go.Proofs.Ytmbenaehnmdbgaa
set_option linter.unusedSimpArgs false
set_option linter.unusedVariables false
open H
/-- The bytes while bits are turned: the bit i of the mask stands for the bit k + i. -/
def turnB (l : List UInt8) (p : Nat) : List UInt8 := l.set (p / 8) (l.getD (p / 8) 0 ^^^ shl8 1 (p % 8))
def turnK (s : List UInt8) (k : Nat) (m : BitVec 32) : Nat → List UInt8
  | 0 => s
  | i + 1 => if (m >>> i) &&& 1#32 = 1#32 then turnB (turnK s k m i) (k + i) else turnK s k m i
def turnF (m : BitVec 32) : Nat → Bool
  | 0 => false
  | i + 1 => if (m >>> i) &&& 1#32 = 1#32 then true else turnF m i
theorem turnK_len (s : List UInt8) (k : Nat) (m : BitVec 32) (i : Nat) : (turnK s k m i).length = s.length := by
  induction i with
  | zero => rfl
  | succ i ih => simp only [turnK]; split <;> simp [turnB, ih]

theorem mask_bit1 (m : BitVec 32) (i : Nat) : (m >>> i &&& 1#32 = 1#32) ↔ m.getLsbD i = true := by
  have h := Crc.and1 (m >>> i)
  rw [BitVec.getLsbD_ushiftRight, Nat.add_zero] at h
  have h01 : m >>> i &&& 1#32 = 0#32 ∨ m >>> i &&& 1#32 = 1#32 := by
    have : (m >>> i &&& 1#32).toNat < 2 := by
      rw [BitVec.toNat_and]
      exact Nat.lt_of_le_of_lt Nat.and_le_right (by decide)
    rcases (show (m >>> i &&& 1#32).toNat = 0 ∨ (m >>> i &&& 1#32).toNat = 1 by omega) with h | h
    · exact .inl (BitVec.eq_of_toNat_eq h)
    · exact .inr (BitVec.eq_of_toNat_eq h)
  rcases h01 with h0 | h0
  · rw [h0]
    simp [h.1 h0]
  · rw [h0]
    cases hb : m.getLsbD i with
    | false => have := h.2 hb; rw [h0] at this; exact absurd this (by decide)
    | true => simp
theorem turnB_bits (l : List UInt8) (p j : Nat) (hp : p < 8 * l.length) : Crc.bits (turnB l p) j = (Crc.bits l j ^^ decide (j = p)) := by
  unfold Crc.bits turnB
  have hs : (shl8 1 (p % 8)).toBitVec.getLsbD (j % 8) = decide (j % 8 = p % 8) := by
    show ((1#8) <<< (p % 8)).getLsbD (j % 8) = _
    rw [BitVec.getLsbD_shiftLeft, BitVec.getLsbD_one]
    simp only [show j % 8 < 8 from Nat.mod_lt _ (by decide), decide_true, Bool.true_and]
    rw [Bool.eq_iff_iff]
    simp
    omega
  simp only [List.getD_eq_getElem?_getD, List.getElem?_set]
  by_cases h : p / 8 = j / 8
  · rw [if_pos h, if_pos (by omega), Option.getD_some]
    show (_ ^^^ (shl8 1 (p % 8)).toBitVec).getLsbD (j % 8) = _
    rw [BitVec.getLsbD_xor, hs, h]
    have e : decide (j % 8 = p % 8) = decide (j = p) := by simp only [decide_eq_decide]; omega
    rw [e]
  · rw [if_neg h]
    have : ¬ j = p := fun e => h (by rw [e])
    simp [this]
theorem turnK_bits (s : List UInt8) (k : Nat) (m : BitVec 32) (i : Nat) (hki : k + i ≤ 8 * s.length) (j : Nat) : Crc.bits (turnK s k m i) j = (Crc.bits s j ^^ (decide (k ≤ j ∧ j < k + i) && m.getLsbD (j - k))) := by
  induction i with
  | zero =>
    have : ¬ (k ≤ j ∧ j < k + 0) := by omega
    simp only [turnK, this, decide_false, Bool.false_and, Bool.xor_false]
  | succ i ih =>
    have ih := ih (by omega)
    simp only [turnK]
    split
    · rename_i hc
      have hb := (mask_bit1 m i).1 hc
      rw [turnB_bits _ _ _ (by rw [turnK_len]; omega), ih]
      by_cases hj : j = k + i
      · subst hj
        have h1 : ¬ (k ≤ k + i ∧ k + i < k + i) := by omega
        have h2 : k ≤ k + i ∧ k + i < k + (i + 1) := by omega
        simp [h1, h2, hb]
      · have e : (k ≤ j ∧ j < k + (i + 1)) ↔ (k ≤ j ∧ j < k + i) := by omega
        simp [hj, e]
    · rename_i hc
      have hb : m.getLsbD i = false := by
        cases h : m.getLsbD i with
        | false => rfl
        | true => exact absurd ((mask_bit1 m i).2 h) hc
      rw [ih]
      by_cases hj : j = k + i
      · subst hj
        have h1 : ¬ (k ≤ k + i ∧ k + i < k + i) := by omega
        simp [h1, hb]
      · have e : (k ≤ j ∧ j < k + (i + 1)) ↔ (k ≤ j ∧ j < k + i) := by omega
        simp only [e]
theorem turn_none (s : List UInt8) (k : Nat) (m : BitVec 32) (i : Nat) (h : turnF m i = false) : turnK s k m i = s := by
  induction i with
  | zero => rfl
  | succ i ih =>
    simp only [turnF] at h
    split at h
    · cases h
    · rename_i hc
      simp only [turnK, if_neg hc]
      exact ih h
theorem turn_some (m : BitVec 32) (i : Nat) (h : turnF m i = true) : ∃ t, t < i ∧ m.getLsbD t = true := by
  induction i with
  | zero => cases h
  | succ i ih =>
    simp only [turnF] at h
    split at h
    · rename_i hc
      exact ⟨i, by omega, (mask_bit1 m i).1 hc⟩
    · obtain ⟨t, ht, hb⟩ := ih h
      exact ⟨t, by omega, hb⟩
theorem turn_plain (s : List UInt8) (k : Nat) (m : BitVec 32) (i : Nat) (hi : i ≤ 32) (hki : k + i ≤ 8 * s.length) : (!decide (Crc.of (turnK s k m i) = Crc.of s)) = turnF m i := by
  cases hf : turnF m i with
  | false => rw [turn_none s k m i hf]; simp
  | true =>
    obtain ⟨t, ht, hb⟩ := turn_some m i hf
    have hne : ¬ Crc.of (turnK s k m i) = Crc.of s := by
      intro h
      have := Crc.of_burst (turnK s k m i) s (turnK_len _ _ _ _) k (by rw [turnK_len]; omega) (fun j hj => by
        rw [turnK_bits s k m i hki j]
        have h1 : ¬ (k ≤ j ∧ j < k + i) := by omega
        simp [h1]) (fun j hj _ => by
        rw [turnK_bits s k m i hki j]
        have h1 : ¬ (k ≤ j ∧ j < k + i) := by omega
        simp [h1]) h (k + t) (by rw [turnK_len]; omega)
      rw [turnK_bits s k m i hki (k + t)] at this
      have h1 : k ≤ k + t ∧ k + t < k + i := by omega
      simp [h1, hb] at this
    simp [hne]

set_option maxRecDepth 20000 in
set_option maxHeartbeats 400000 in
theorem law_turned (s : List UInt8) (at_ : Int) (m : BitVec 32) (hat : -9223372036854775808 ≤ at_ ∧ at_ ≤ 9223372036854775807) (w : World) : Does Try.prog 5 #[str s, .int .i64 at_, u32 m] w fun v w' => v = .bool true ∧ Ext [] w w' := by
  refine does (args := [str s, .int .i64 at_, u32 m]) Try.func5 rfl (by kernel_rfl) (by kernel_rfl) rfl ent_5 (Sat.start w []) ?_; intro QV hQ
  by_cases h1 : (s.length : Int) < 1
  · simp -implicitDefEqProofs (disch := omega) only [go_sem, h1, decide_true]
    refine RCall_eq crc_known ?_
    simp -implicitDefEqProofs (disch := omega) only [go_sem]
    exact hQ _ _ fun w' hs => ⟨rfl, hs.anchor (by simp)⟩
  by_cases h2 : (2000 : Int) < (s.length : Int)
  · simp -implicitDefEqProofs (disch := omega) only [go_sem, h1, h2, decide_true, decide_false]
    refine RCall_eq crc_known ?_
    simp -implicitDefEqProofs (disch := omega) only [go_sem]
    exact hQ _ _ fun w' hs => ⟨rfl, hs.anchor (by simp)⟩
  by_cases h3 : m = 0#32
  · simp -implicitDefEqProofs (disch := omega) only [go_sem, h1, h2, h3, decide_true, decide_false]
    refine RCall_eq crc_known ?_
    simp -implicitDefEqProofs (disch := omega) only [go_sem]
    exact hQ _ _ fun w' hs => ⟨rfl, hs.anchor (by simp)⟩
  simp -implicitDefEqProofs (disch := omega) only [go_sem, h1, h2, h3, decide_true, decide_false]
  refine RCall_eq (words_count at_ _ hat (by omega)) ?_
  have hk0 := Int.emod_nonneg (pos at_) (show (8 : Int) * s.length ≠ 0 by omega)
  have hk1 := Int.emod_lt_of_pos (pos at_) (show (0 : Int) < 8 * s.length by omega)
  obtain ⟨k, hk⟩ := Int.eq_ofNat_of_zero_le hk0
  rw [hk] at hk1 ⊢
  simp -implicitDefEqProofs (disch := omega) only [go_sem]
  refine RRun_bytes Try.underlying9 ⟨Try.underlying29, Try.underlying5⟩ fun g sp hg => ?_
  simp only [below_cons, below_nil, under_anchor, and_true] at hg
  simp -implicitDefEqProofs (disch := omega) only [go_sem]
  refine RLoop_intro (fun f h => ∃ i : Nat, i ≤ 32 ∧ k + i ≤ 8 * s.length ∧ f 0 = str s ∧ f 2 = u32 m ∧ f 7 = .int .i64 (8 * (s.length : Int)) ∧ f 8 = .int .i64 (k : Int) ∧ f 9 = .slice (some ⟨g, 0, none⟩) s.length (s.length + sp.length) ∧ f 10 = .bool (turnF m i) ∧ f 11 = .int .i64 (i : Int) ∧
    h = [.cells g 5 ((turnK s k m i).map byte ++ sp).toArray, .anchor w []]) (fun f _ => (32 - ival (f 11)).toNat) ?_ ?_
  · exact ⟨0, by omega, by omega, by simp -implicitDefEqProofs (disch := omega) only [go_sem], by simp -implicitDefEqProofs (disch := omega) only [go_sem], by simp -implicitDefEqProofs (disch := omega) only [go_sem], by simp -implicitDefEqProofs (disch := omega) only [go_sem], by simp -implicitDefEqProofs (disch := omega) only [go_sem], by simp -implicitDefEqProofs (disch := omega) only [go_sem]; rfl, by simp -implicitDefEqProofs (disch := omega) only [go_sem]; rfl, rfl⟩
  rintro f h ⟨i, hi, hki, e0, e2, e7, e8, e9, e10, e11, rfl⟩ Q' hQ'
  have hkl := turnK_len s k m i
  by_cases c1 : (i : Int) < 32
  rotate_left
  · have hpl := turn_plain s k m i hi hki
    simp -implicitDefEqProofs (disch := omega) only [go_sem, e11, e8, e7, c1, decide_false, e9]
    refine RRun_str_row ⟨Try.underlying29, Try.underlying5⟩ Try.underlying9 hkl ?_
    simp -implicitDefEqProofs (disch := omega) only [go_sem]
    refine RCall_eq (crc_of _ (by omega)) ?_
    simp -implicitDefEqProofs (disch := omega) only [go_sem, e0]
    refine RCall_eq (crc_of _ (by omega)) ?_
    simp -implicitDefEqProofs (disch := omega) only [go_sem, e10, hpl, decide_true, beq_self_eq_true]
    refine RCall_eq crc_known ?_
    simp -implicitDefEqProofs (disch := omega) only [go_sem]
    exact hQ _ _ fun w' hs => ⟨rfl, hs.anchor (by simp)⟩
  by_cases c2 : (k : Int) + i < 8 * (s.length : Int)
  rotate_left
  · have hpl := turn_plain s k m i hi hki
    simp -implicitDefEqProofs (disch := omega) only [go_sem, e11, e8, e7, c1, c2, decide_true, decide_false, e9]
    refine RRun_str_row ⟨Try.underlying29, Try.underlying5⟩ Try.underlying9 hkl ?_
    simp -implicitDefEqProofs (disch := omega) only [go_sem]
    refine RCall_eq (crc_of _ (by omega)) ?_
    simp -implicitDefEqProofs (disch := omega) only [go_sem, e0]
    refine RCall_eq (crc_of _ (by omega)) ?_
    simp -implicitDefEqProofs (disch := omega) only [go_sem, e10, hpl, decide_true, beq_self_eq_true]
    refine RCall_eq crc_known ?_
    simp -implicitDefEqProofs (disch := omega) only [go_sem]
    exact hQ _ _ fun w' hs => ⟨rfl, hs.anchor (by simp)⟩
  simp -implicitDefEqProofs (disch := omega) only [go_sem, e11, e8, e7, c1, c2, decide_true]
  simp -implicitDefEqProofs (disch := omega) only [go_sem, e2, e11]
  refine RC_intro (fun hc => ?_) (fun hc => ?_)
  · simp only [decide_eq_true_eq] at hc
    obtain ⟨q, hq⟩ : ∃ q, q = (k + i) / 8 := ⟨_, rfl⟩
    obtain ⟨r, hr⟩ : ∃ r, r = (k + i) % 8 := ⟨_, rfl⟩
    have hd : ((k : Int) + (i : Int)).tdiv 8 = (q : Int) := by rw [Int.tdiv_eq_ediv_of_nonneg (by omega), hq]; omega
    have hm : ((k : Int) + (i : Int)).tmod 8 = (r : Int) := by rw [Int.tmod_eq_emod_of_nonneg (by omega), hr]; omega
    have hq1 : q < s.length := by omega
    have hr1 : r < 8 := by omega
    have hget := brow_get (turnK s k m i) sp q (by omega)
    have hset : ∀ b : UInt8, ((turnK s k m i).map byte ++ sp).set q (byte b) = ((turnK s k m i).set q b).map byte ++ sp := fun b => brow_set _ _ _ _ (by omega)
    have hnew : (turnK s k m i).set q ((turnK s k m i).getD q 0 ^^^ shl8 1 r) = turnK s k m (i + 1) := by simp only [turnK, if_pos hc, turnB, hq, hr]
    simp -implicitDefEqProofs (disch := omega) only [go_sem, e8, e9, e11, hd, hm, hget, hkl, hset, hnew]
    refine hQ' _ _ _ (fun _ h => h) ⟨i + 1, by omega, by omega, ?_, ?_, ?_, ?_, ?_, ?_, ?_, rfl⟩ ?_
    · simp -implicitDefEqProofs (disch := omega) only [go_sem, e0]
    · simp -implicitDefEqProofs (disch := omega) only [go_sem, e2]
    · simp -implicitDefEqProofs (disch := omega) only [go_sem, e7]
    · simp -implicitDefEqProofs (disch := omega) only [go_sem, e8]
    · simp -implicitDefEqProofs (disch := omega) only [go_sem, e9]
    · simp -implicitDefEqProofs (disch := omega) only [go_sem]; simp only [turnF, if_pos hc]
    · simp -implicitDefEqProofs (disch := omega) only [go_sem]; rfl
    · simp -implicitDefEqProofs (disch := omega) only [go_sem, e11]; omega
  · simp only [decide_eq_false_iff_not] at hc
    simp -implicitDefEqProofs (disch := omega) only [go_sem, e11]
    refine hQ' _ _ _ (fun _ h => h) ⟨i + 1, by omega, by omega, ?_, ?_, ?_, ?_, ?_, ?_, ?_, ?_⟩ ?_
    · simp -implicitDefEqProofs (disch := omega) only [go_sem, e0]
    · simp -implicitDefEqProofs (disch := omega) only [go_sem, e2]
    · simp -implicitDefEqProofs (disch := omega) only [go_sem, e7]
    · simp -implicitDefEqProofs (disch := omega) only [go_sem, e8]
    · simp -implicitDefEqProofs (disch := omega) only [go_sem, e9]
    · simp -implicitDefEqProofs (disch := omega) only [go_sem, e10]; simp only [turnF, if_neg hc]
    · simp -implicitDefEqProofs (disch := omega) only [go_sem]; rfl
    · simp only [turnK, if_neg hc]
    · simp -implicitDefEqProofs (disch := omega) only [go_sem, e11]; omega
end Go.Proofs.Ytmbenaehnmdbgaa
