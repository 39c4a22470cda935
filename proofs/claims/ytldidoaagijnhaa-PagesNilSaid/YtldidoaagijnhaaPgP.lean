/- Pages, in plain Lean: files, opened and read, with a bit turned. -/
import Derived.Test.YtldidoaagijnhaaPgN
namespace Go.Proofs.Ytldidoaagijnhaa
set_option linter.unusedSimpArgs false
set_option linter.unusedVariables false
open H
namespace Pg
theorem rd_pg {s : List UInt8} (h : s.length ≤ 252) : rd (pg s) = (pad s, 0) := by
  have hl := pad_len h
  unfold rd pg
  rw [List.drop_left' hl, List.take_left' hl, if_pos rfl]
theorem rd_turn {s : List UInt8} (h : s.length ≤ 252) {k : Nat} (hk : k < 256) (b : UInt8) : rd (tnB (pg s) k b) = ([], 5) := by
  have hl := pad_len h
  have := sum_turned (t := pad s) (k := k) b (by omega)
  rw [hl] at this
  unfold rd
  exact if_neg this
def pageR (R : List UInt8) (j : Nat) : List UInt8 := (R.drop (256 * j)).take 256
theorem page_file {P R : List UInt8} (hP : P.length = 256) (j : Nat) : page (P ++ R) (j + 1) = pageR R j := by
  unfold page pageR
  rw [show 256 * (j + 1) = 256 + 256 * j by omega, ← List.drop_drop, List.drop_left' hP]
theorem pageR_add {R : List UInt8} {s : List UInt8} {j n : Nat} (hR : R.length = 256 * n) (hs : s.length = 256) : pageR (R ++ s) n = s ∧ (j < n → pageR (R ++ s) j = pageR R j) := by
  constructor
  · unfold pageR
    rw [List.drop_left' hR, List.take_of_length_le (by omega)]
  · intro hj
    unfold pageR
    rw [List.drop_append_of_le_length (by omega), List.take_append_of_le_length (by rw [List.length_drop]; omega)]
theorem pageR_turn {R : List UInt8} {n k j : Nat} (hR : R.length = 256 * n) (hj : j < n) (b : UInt8) : pageR (tnB R k b) j = if k / 256 = j then tnB (pageR R j) (k % 256) b else pageR R j := by
  unfold pageR tnB
  by_cases h : k / 256 = j
  · rw [if_pos h]
    have hk : k < R.length := by omega
    rw [List.drop_set, if_neg (by omega), List.take_set]
    have e : R.getD k 0 = ((R.drop (256 * j)).take 256).getD (k % 256) 0 := by
      rw [List.getD_eq_getElem?_getD, List.getD_eq_getElem?_getD, List.getElem?_take, if_pos (by omega), List.getElem?_drop]
      congr 2; omega
    rw [e, show k - 256 * j = k % 256 by omega]
  · rw [if_neg h]
    by_cases h2 : k < 256 * j
    · rw [List.drop_set_of_lt h2]
    · rw [List.drop_set, if_neg h2, List.take_set]
      rw [List.set_eq_of_length_le]
      rw [List.length_take, List.length_drop]; omega
/-- A file's pages are pages. -/
def Good (R : List UInt8) (n : Nat) : Prop := R.length = 256 * n ∧ ∀ j, j < n → ∃ a : List UInt8, a.length ≤ 252 ∧ pageR R j = pg a
theorem good_nil : Good [] 0 := ⟨rfl, fun j h => absurd h (by omega)⟩
theorem good_add {R : List UInt8} {n : Nat} (h : Good R n) {s : List UInt8} (hs : s.length ≤ 252) : Good (R ++ pg s) (n + 1) := by
  refine ⟨by rw [List.length_append, h.1, pg_len hs]; omega, fun j hj => ?_⟩
  obtain ⟨h1, h2⟩ := pageR_add (s := pg s) (j := j) h.1 (pg_len hs)
  by_cases hjn : j < n
  · rw [h2 hjn]; exact h.2 j hjn
  · obtain rfl : j = n := by omega
    exact ⟨s, hs, h1⟩
theorem add_file {n : Nat} {hd R s : List UInt8} (hh : hd.length ≤ 200) : putAt ((pg (first (n + 1) hd) ++ R) ++ pg s) 0 (pg (first (n + 2) hd)) = pg (first (n + 2) hd) ++ (R ++ pg s) := by
  have h1 := pg_len (s := first (n + 1) hd) (by have := first_len (n := n + 1) hh; omega)
  have h2 := pg_len (s := first (n + 2) hd) (by have := first_len (n := n + 2) hh; omega)
  have := putAt_mid [] (R ++ pg s) (pg (first (n + 2) hd)) 0 (pg (first (n + 1) hd)) rfl (by rw [h1, h2])
  rw [List.nil_append, List.nil_append] at this
  rw [List.append_assoc]
  exact this
theorem numS_fix' {s a c : List UInt8} {d m p : Nat} (hs : s = a ++ Vint.fixL d m ++ c) (hp : p = a.length) (hm : m < 256 ^ d) : Vint.numS s p d = m := by
  subst hs hp
  rw [Vint.numS_back _ _ m d fun i hi => Vint.fix_at a c d m i hi, Nat.mod_eq_of_lt hm]
theorem open_file {n : Nat} (hn : n < 65536) {hd R : List UInt8} (hh : hd.length ≤ 200) (hR : R.length = 256 * n) : opn (pg (first (n + 1) hd) ++ R) = (hd, 0) := by
  have hf := first_len (n := n + 1) hh
  have hpl := pad_len (s := first (n + 1) hd) (by omega)
  have hpg := pg_len (s := first (n + 1) hd) (by omega)
  have hsb := sumB_len (pad (first (n + 1) hd))
  have hT : (pg (first (n + 1) hd) ++ R).take 252 = pad (first (n + 1) hd) := by
    unfold pg
    rw [List.append_assoc, List.take_left' hpl]
  have hD : ((pg (first (n + 1) hd) ++ R).drop 252).take 4 = sumB (pad (first (n + 1) hd)) := by
    unfold pg
    rw [List.append_assoc, List.drop_left' hpl, List.take_left' hsb]
  have h256 : (pg (first (n + 1) hd) ++ R).take 256 = pg (first (n + 1) hd) := List.take_left' hpg
  have hlen : (pg (first (n + 1) hd) ++ R).length = 256 * (n + 1) := by rw [List.length_append, hpg, hR]; omega
  have hparts : pg (first (n + 1) hd) ++ R = [80, 71, 70, 76] ++ Vint.fixL 4 (n + 1) ++ (Vint.text hd ++ (zs (252 - (first (n + 1) hd).length) ++ (sumB (pad (first (n + 1) hd)) ++ R))) := by
    conv => lhs; unfold pg pad
    conv => lhs; arg 1; arg 1; arg 1; unfold first
    simp only [List.append_assoc]
    rfl
  have hX : pad (first (n + 1) hd) = ([80, 71, 70, 76] ++ Vint.fixL 4 (n + 1)) ++ Vint.putL hd.length ++ (hd ++ zs (252 - (first (n + 1) hd).length)) := by
    conv => lhs; unfold pad
    conv => lhs; arg 1; unfold first Vint.text
    simp only [List.append_assoc]
  have h4 : (pg (first (n + 1) hd) ++ R).take 4 = [80, 71, 70, 76] := by rw [hparts, List.append_assoc]; rfl
  have hN : Vint.numS (pg (first (n + 1) hd) ++ R) 4 4 = n + 1 := numS_fix' hparts rfl (by omega)
  have h8 : ([80, 71, 70, 76] ++ Vint.fixL 4 (n + 1)).length = 8 := by rw [List.length_append, Vint.fixL_len]; rfl
  have hget := Vint.get_back ([80, 71, 70, 76] ++ Vint.fixL 4 (n + 1)) (hd ++ zs (252 - (first (n + 1) hd).length)) hd.length (by omega)
  rw [h8, ← hX] at hget
  have hpu := Vint.putL_len9 hd.length (by omega)
  have hnext : Vint.next (pad (first (n + 1) hd)) 8 = (hd, ((8 + (Vint.putL hd.length).length + hd.length : Nat) : Int), 0) := by
    unfold Vint.next
    have hget' : Vint.get (pad (first (n + 1) hd)) 8 = ((hd.length : Int), ((8 + (Vint.putL hd.length).length : Nat) : Int), 0) := hget
    rw [hget']
    simp only [if_true]
    have hxl : (pad (first (n + 1) hd)).length = 8 + (Vint.putL hd.length).length + (hd.length + (252 - (first (n + 1) hd).length)) := by
      rw [hX, List.length_append, List.length_append, h8, List.length_append, zs_len]
    rw [if_neg (by omega), Int.toNat_natCast, Int.toNat_natCast]
    have hd1 : (pad (first (n + 1) hd)).drop (8 + (Vint.putL hd.length).length) = hd ++ zs (252 - (first (n + 1) hd).length) := by
      rw [hX]
      exact List.drop_left' (by rw [List.length_append, h8])
    rw [hd1, List.take_left]
    rfl
  have hhd : headed (pg (first (n + 1) hd) ++ R) = some hd := by
    have hiff := headed_first (s := pg (first (n + 1) hd) ++ R) (q := n + 1) (by omega) h4 hN (by rw [hD, hT]) (by rw [hT, hnext]) (by rw [hT, hnext]; exact hh)
    unfold headed
    rw [hT, hnext] at hiff ⊢
    rw [if_pos ⟨rfl, hh, hiff.2 h256.symm⟩]
  unfold opn
  rw [hlen, if_neg (by omega), if_neg (by omega), if_neg (by omega), hD, hT, if_neg (by simp), h4, if_neg (by simp), hN, if_neg (by simp), hhd]
end Pg
end Go.Proofs.Ytldidoaagijnhaa
