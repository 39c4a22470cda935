/- Pages, in plain Lean: what page 0 says is what is laid down so; a page with a bit turned. -/
import Derived.Test.YtldidoaagijnhaaPgC
import Derived.Test.YtldidoaagijnhaaTurn
namespace Go.Proofs.Ytldidoaagijnhaa
set_option linter.unusedSimpArgs false
set_option linter.unusedVariables false
open H
namespace Pg
theorem allz_zs {l : List UInt8} (h : allz l = true) : l = zs l.length := by
  unfold allz at h
  rw [List.all_eq_true] at h
  unfold zs
  apply List.ext_getElem (by simp)
  intro i h1 h2
  rw [List.getElem_replicate]
  exact eq_of_beq (h _ (List.getElem_mem h1))
theorem allz_of (n : Nat) : allz (zs n) = true := by
  unfold allz zs
  rw [List.all_eq_true]
  intro x hx
  rw [List.eq_of_mem_replicate hx]; rfl
/-- A page 0 is what its head and number make, just where nothing but zeros stands behind the head. -/
theorem headed_first {s : List UInt8} {q : Nat} (hl : 256 ≤ s.length) (hm : s.take 4 = [80, 71, 70, 76]) (hq : Vint.numS s 4 4 = q) (hsum : (s.drop 252).take 4 = sumB (s.take 252))
    (he : (Vint.next (s.take 252) 8).2.2 = 0) (hh : (Vint.next (s.take 252) 8).1.length ≤ 200) :
    allz ((s.take 252).drop (Vint.next (s.take 252) 8).2.1.toNat) = true ↔ pg (first q (Vint.next (s.take 252) 8).1) = s.take 256 := by
  obtain ⟨m, t, hg, htm, _, h8, hx⟩ := next_ok _ _ he
  have l1 : (s.take 252).length = 252 := by rw [List.length_take]; omega
  have hX4 : (s.take 252).take 4 = [80, 71, 70, 76] := by rw [List.take_take, Nat.min_eq_left (by omega)]; exact hm
  have hX8 : ((s.take 252).drop 4).take 4 = Vint.fixL 4 q := by
    rw [← hq]
    have hd : ∀ i, i < 4 → ((s.take 252).drop 4).getD i 0 = s.getD (4 + i) 0 := by
      intro i hi
      rw [List.getD_eq_getElem?_getD, List.getD_eq_getElem?_getD, List.getElem?_drop, List.getElem?_take, if_pos (by omega)]
    apply List.ext_getElem (by rw [Vint.fixL_len, List.length_take, List.length_drop, l1]; rfl)
    intro i h1 h2
    have hi : i < 4 := by rw [Vint.fixL_len] at h2; exact h2
    have hgt := Vint.fixL_get 4 (Vint.numS s 4 4) i hi
    rw [List.getElem?_eq_getElem h2] at hgt
    rw [Option.some.inj hgt]
    have hdig : Vint.numS s 4 4 / 256 ^ i % 256 = (s.getD (4 + i) 0).toNat := numS_digit s 4 4 i hi
    rw [hdig, UInt8.ofNat_toNat, ← hd i hi, List.getElem_take, List.getD_eq_getElem?_getD, List.getElem?_eq_getElem (by rw [List.length_drop, l1]; omega)]
    rfl
  rw [hx] at hh ⊢
  simp only [Int.toNat_natCast] at hh ⊢
  rw [l1] at htm
  have hk : Vint.getK (s.take 252) 8 9 0 0 = ((m : Int), (t : Int), 0) := by rw [← hg]; rfl
  obtain ⟨v, hv1, hv2, _⟩ := Vint.getK_put (s.take 252) 8 9 0 0 m t hk (by omega)
  have hvm : v = m := by rw [hv1]; simp
  subst hvm
  rw [Nat.add_zero] at hv2
  have hhl : (((s.take 252).drop t).take v).length = v := by rw [List.length_take, List.length_drop, l1]; omega
  generalize hX : s.take 252 = X at *
  have hfirst : first q ((X.drop t).take v) = X.take (t + v) := by
    unfold first Vint.text
    rw [hhl, ← hX4, ← hX8, ← hv2]
    have e1 : X.take (t + v) = X.take 4 ++ ((X.drop 4).take 4 ++ ((X.drop 8).take (t - 8) ++ (X.drop t).take v)) := by
      rw [show t + v = 4 + (4 + ((t - 8) + v)) by omega, List.take_add, List.take_add, List.take_add, List.drop_drop, List.drop_drop, show 4 + 4 = 8 from rfl, show 8 + (t - 8) = t by omega]
    rw [e1]
    simp only [List.append_assoc]
  have hfl : (X.take (t + v)).length = t + v := by rw [List.length_take]; omega
  have hs256 : s.take 256 = X ++ sumB X := by
    rw [show (256 : Nat) = 252 + 4 from rfl, List.take_add, hX, hsum]
  have hpadX : pad (X.take (t + v)) = X.take (t + v) ++ zs (252 - (t + v)) := by unfold pad; rw [hfl]
  rw [hfirst, hs256]
  unfold pg
  rw [hpadX]
  constructor
  · intro hz
    have hz' := allz_zs hz
    rw [List.length_drop, l1] at hz'
    have : X.take (t + v) ++ zs (252 - (t + v)) = X := by rw [← hz', List.take_append_drop]
    rw [this]
  · intro h
    have h1 := congrArg (List.take 252) h
    rw [List.take_left' (by rw [List.length_append, hfl, zs_len]; omega), List.take_left' l1] at h1
    have h2 : X.drop (t + v) = zs (252 - (t + v)) := by
      have := congrArg (List.drop (t + v)) h1
      rw [List.drop_left' hfl] at this
      exact this.symm
    rw [h2]
    exact allz_of _
end Pg
end Go.Proofs.Ytldidoaagijnhaa
