/- A bit of a text turned: another sum; and the operations that turn it. -/
import Derived.Test.YtldidoaagijnhaaCrcB
import Derived.Test.YtldidoaagijnhaaVintP
import Derived.Test.YtldidoaagijnhaaSeq
namespace Go.Proofs.Ytldidoaagijnhaa
set_option linter.unusedSimpArgs false
set_option linter.unusedVariables false
open H
section
variable (P : Program) (κ : Pt) (f : Fr) (h : List Res) (Q : Exit → Fr → List Res → Prop)
theorem RB_u8_rem8 (t : TypeId) (x y : Operand) (a : UInt8) : RB P .rem t x y (byte a) (byte 8) κ f h Q = RV P κ (byte (a % 8)) f h Q := by
  unfold byte
  rw [RB_int]
  show RVo P (intV .rem .u8 (a.toNat : Int) .u8 8) κ f h Q = _
  rw [intV_rem _ _ _ (by decide), RVo_some]
  have e : ((a.toNat : Int)).tmod 8 = ((a % 8).toNat : Int) := by rw [Int.tmod_eq_emod_of_nonneg (by omega), UInt8.toNat_mod]; rfl
  rw [e]
theorem RB_u8_shlb (t : TypeId) (x y : Operand) (a n : UInt8) (hn : n.toNat < 8) : RB P .shl t x y (byte a) (byte n) κ f h Q = RV P κ (byte (shl8 a n.toNat)) f h Q := by
  have := RB_u8_shl P κ f h Q t x y a .u8 (n.toNat : Int) (by omega) (by omega)
  rw [Int.toNat_natCast] at this
  exact this
end
theorem mod8_lt (b : UInt8) : (b % 8).toNat < 8 := by rw [UInt8.toNat_mod]; exact Nat.mod_lt _ (by decide)
/-- A text with a bit turned. -/
def tnB (s : List UInt8) (k : Nat) (b : UInt8) : List UInt8 := s.set k (s.getD k 0 ^^^ shl8 1 (b % 8).toNat)
theorem tnB_len (s : List UInt8) (k : Nat) (b : UInt8) : (tnB s k b).length = s.length := List.length_set
theorem tnB_eq {s : List UInt8} {k : Nat} (hk : k < s.length) (b : UInt8) : s.take k ++ [s.getD k 0 ^^^ shl8 1 (b % 8).toNat] ++ s.drop (k + 1) = tnB s k b := by
  unfold tnB
  rw [List.set_eq_take_append_cons_drop, if_pos hk]
  simp
theorem shl_ne (b : UInt8) : shl8 1 (b % 8).toNat ≠ 0 := by
  have h := mod8_lt b
  have : ∀ k : Nat, k < 8 → shl8 1 k ≠ 0 := by decide
  exact this _ h
theorem xor_ne (x y : UInt8) (h : y ≠ 0) : x ^^^ y ≠ x := by
  intro e
  apply h
  have : x ^^^ (x ^^^ y) = x ^^^ x := by rw [e]
  rw [← UInt8.xor_assoc, UInt8.xor_self, UInt8.zero_xor] at this
  exact this
theorem tnB_ne {s : List UInt8} {k : Nat} (hk : k < s.length) (b : UInt8) : tnB s k b ≠ s := by
  intro e
  have h1 : (tnB s k b).getD k 0 = s.getD k 0 := by rw [e]
  unfold tnB at h1
  rw [List.getD_eq_getElem?_getD, List.getElem?_set, if_pos rfl, if_pos hk] at h1
  exact xor_ne _ _ (shl_ne b) h1
theorem tnB_bits {s : List UInt8} {k : Nat} (hk : k < s.length) (b : UInt8) (j : Nat) : Crc.bits (tnB s k b) j = (Crc.bits s j ^^ decide (j = 8 * k + (b % 8).toNat)) := by
  have hm := mod8_lt b
  unfold Crc.bits tnB
  generalize (b % 8).toNat = r at *
  have hs : (shl8 1 r).toBitVec.getLsbD (j % 8) = decide (j % 8 = r) := by
    show ((1#8) <<< r).getLsbD (j % 8) = _
    rw [BitVec.getLsbD_shiftLeft, BitVec.getLsbD_one]
    simp only [show j % 8 < 8 from Nat.mod_lt _ (by decide), decide_true, Bool.true_and]
    rw [Bool.eq_iff_iff]
    simp
    omega
  simp only [List.getD_eq_getElem?_getD, List.getElem?_set]
  by_cases h : k = j / 8
  · rw [if_pos h, if_pos hk, Option.getD_some]
    show (_ ^^^ (shl8 1 r).toBitVec).getLsbD (j % 8) = _
    rw [BitVec.getLsbD_xor, hs, h]
    have e : decide (j % 8 = r) = decide (j = 8 * (j / 8) + r) := by simp only [decide_eq_decide]; omega
    rw [e]
  · rw [if_neg h]
    have : ¬ j = 8 * k + r := fun e => h (by omega)
    simp [this]
theorem crc_turn {s : List UInt8} {k : Nat} (hk : k < s.length) (b : UInt8) : Crc.of (tnB s k b) ≠ Crc.of s := by
  intro h
  have hm := mod8_lt b
  have := Crc.of_burst (tnB s k b) s (tnB_len _ _ _) (8 * k + (b % 8).toNat) (by rw [tnB_len]; omega) (fun j hj => by
    rw [tnB_bits hk]
    have h1 : ¬ j = 8 * k + (b % 8).toNat := by omega
    rw [decide_eq_false h1, Bool.xor_false]) (fun j hj _ => by
    rw [tnB_bits hk]
    have h1 : ¬ j = 8 * k + (b % 8).toNat := by omega
    rw [decide_eq_false h1, Bool.xor_false]) h (8 * k + (b % 8).toNat) (by rw [tnB_len]; omega)
  rw [tnB_bits hk, decide_eq_true rfl] at this
  simp at this
theorem fix_inj {d m n : Nat} (hm : m < 256 ^ d) (hn : n < 256 ^ d) (h : Vint.fixL d m = Vint.fixL d n) : m = n := by
  have h1 := Vint.numS_back (Vint.fixL d m) 0 m d fun i hi => by
    rw [List.getD_eq_getElem?_getD, Nat.zero_add, Vint.fixL_get d m i hi]; rfl
  have h2 := Vint.numS_back (Vint.fixL d n) 0 n d fun i hi => by
    rw [List.getD_eq_getElem?_getD, Nat.zero_add, Vint.fixL_get d n i hi]; rfl
  rw [Nat.mod_eq_of_lt hm] at h1
  rw [Nat.mod_eq_of_lt hn] at h2
  rw [← h1, ← h2, h]
open Vint (numS) in
theorem numS_digit (s : List UInt8) (p : Nat) : ∀ k i, i < k → numS s p k / 256 ^ i % 256 = (s.getD (p + i) 0).toNat
  | k + 1, i, h => by
    have hb : (s.getD (p + k) 0).toNat < 256 := UInt8.toNat_lt _
    show (numS s p k + (s.getD (p + k) 0).toNat * 256 ^ k) / 256 ^ i % 256 = _
    by_cases hik : i = k
    · subst hik
      rw [Nat.add_mul_div_right _ _ (Nat.pow_pos (by decide)), Nat.div_eq_of_lt (Vint.numS_lt s p i), Nat.zero_add, Nat.mod_eq_of_lt hb]
    · have hlt : i < k := by omega
      obtain ⟨d, rfl⟩ : ∃ d, k = i + (d + 1) := ⟨k - i - 1, by omega⟩
      rw [Nat.pow_add, ← Nat.mul_assoc, Nat.mul_right_comm, Nat.add_mul_div_right _ _ (Nat.pow_pos (by decide)), Nat.pow_succ, ← Nat.mul_assoc, Nat.add_mul_mod_self_right]
      exact numS_digit s p (i + (d + 1)) i hlt
/-- A text behind which its sum stands, with a bit turned: the sum is another one. -/
theorem sum_turned {t : List UInt8} {k : Nat} (b : UInt8) (hk : k < t.length + 4) :
    (tnB (t ++ Vint.fixL 4 (Crc.of t).toNat) k b).drop t.length ≠ Vint.fixL 4 (Crc.of ((tnB (t ++ Vint.fixL 4 (Crc.of t).toNat) k b).take t.length)).toNat := by
  by_cases hkt : k < t.length
  · have h1 : tnB (t ++ Vint.fixL 4 (Crc.of t).toNat) k b = tnB t k b ++ Vint.fixL 4 (Crc.of t).toNat := by
      unfold tnB
      rw [List.set_append_left _ _ hkt]
      congr 3
      rw [List.getD_eq_getElem?_getD, List.getElem?_append_left hkt, List.getD_eq_getElem?_getD]
    rw [h1, List.drop_left' (tnB_len _ _ _), List.take_left' (tnB_len _ _ _)]
    intro h
    have := fix_inj (by have := (Crc.of t).isLt; exact this) (by have := (Crc.of (tnB t k b)).isLt; exact this) h
    exact crc_turn hkt b (BitVec.eq_of_toNat_eq this.symm)
  · have hl := Vint.fixL_len 4 (Crc.of t).toNat
    have h1 : tnB (t ++ Vint.fixL 4 (Crc.of t).toNat) k b = t ++ tnB (Vint.fixL 4 (Crc.of t).toNat) (k - t.length) b := by
      unfold tnB
      rw [List.set_append_right _ _ (by omega)]
      congr 3
      rw [List.getD_eq_getElem?_getD, List.getElem?_append_right (by omega), List.getD_eq_getElem?_getD]
    rw [h1, List.drop_left' rfl, List.take_left' rfl]
    exact tnB_ne (by omega) b
end Go.Proofs.Ytldidoaagijnhaa
