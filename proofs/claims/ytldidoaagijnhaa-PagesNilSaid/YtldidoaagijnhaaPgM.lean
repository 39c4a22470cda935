/- Pages, in plain Lean. -/
import Derived.Test.YtldidoaagijnhaaVintP
import Derived.Test.YtldidoaagijnhaaCrcB
import Derived.Test.YtldidoaagijnhaaBytes
namespace Go.Proofs.Ytldidoaagijnhaa
set_option linter.unusedSimpArgs false
set_option linter.unusedVariables false
namespace Pg
open Vint (fixL numS)
open H (putAt)
def zs (n : Nat) : List UInt8 := List.replicate n 0
def sumB (s : List UInt8) : List UInt8 := fixL 4 (Crc.of s).toNat
def pad (s : List UInt8) : List UInt8 := s ++ zs (252 - s.length)
def pg (s : List UInt8) : List UInt8 := pad s ++ sumB (pad s)
def first (n : Nat) (hd : List UInt8) : List UInt8 := [80, 71, 70, 76] ++ fixL 4 n ++ Vint.text hd
theorem zs_len (n : Nat) : (zs n).length = n := List.length_replicate
theorem sumB_len (s : List UInt8) : (sumB s).length = 4 := Vint.fixL_len _ _
theorem pad_len {s : List UInt8} (h : s.length ≤ 252) : (pad s).length = 252 := by unfold pad; rw [List.length_append, zs_len]; omega
theorem pg_len {s : List UInt8} (h : s.length ≤ 252) : (pg s).length = 256 := by unfold pg; rw [List.length_append, sumB_len, pad_len h]
theorem pad_full {s : List UInt8} (h : s.length = 252) : pad s = s := by unfold pad zs; rw [h]; simp
theorem pg_full {s : List UInt8} (h : s.length = 252) : pg s = s ++ sumB s := by unfold pg; rw [pad_full h]
theorem first_len {n : Nat} {hd : List UInt8} (h : hd.length ≤ 200) : (first n hd).length ≤ 220 := by
  unfold first Vint.text
  have := Vint.putL_len9 hd.length (by omega)
  simp only [List.length_append, Vint.fixL_len, List.length_cons, List.length_nil]
  omega
theorem putAt_def (L : List UInt8) (o : Nat) (s : List UInt8) : putAt L o s = L.take o ++ s ++ L.drop (o + s.length) := rfl
theorem putAt_mid (A B s : List UInt8) (o : Nat) (M : List UInt8) (ho : A.length = o) (hs : s.length = M.length) : putAt (A ++ M ++ B) o s = A ++ s ++ B := by
  subst ho
  rw [putAt_def, List.append_assoc A M B, List.take_left, hs, ← List.append_assoc A M B, List.drop_left' (by rw [List.length_append])]
/-- A page put: cleared, filled, and its sum. -/
theorem put3 (L : List UInt8) (o : Nat) (s : List UInt8) (hs : s.length ≤ 252) (ho : o + 256 ≤ L.length) :
    (((putAt (putAt L o (zs 256)) o s).drop o).take 252 = pad s) ∧ putAt (putAt (putAt L o (zs 256)) o s) (o + 252) (sumB (pad s)) = putAt L o (pg s) := by
  have hL : L = L.take o ++ (L.drop o).take 256 ++ L.drop (o + 256) := by
    rw [List.append_assoc, ← List.drop_drop, List.take_append_drop, List.take_append_drop]
  have hA : (L.take o).length = o := by rw [List.length_take]; omega
  have hM : ((L.drop o).take 256).length = 256 := by rw [List.length_take, List.length_drop]; omega
  generalize L.take o = A at *
  generalize (L.drop o).take 256 = M at *
  generalize L.drop (o + 256) = B at *
  subst hL
  have h1 : putAt (A ++ M ++ B) o (zs 256) = A ++ (s.map fun _ => 0) ++ (zs (252 - s.length) ++ zs 4 ++ B) := by
    rw [putAt_mid A B (zs 256) o M hA (by rw [zs_len, hM])]
    have : zs 256 = (s.map fun _ => 0) ++ (zs (252 - s.length) ++ zs 4) := by
      unfold zs
      rw [List.map_const', List.replicate_append_replicate, List.replicate_append_replicate]
      congr 1; omega
    rw [this]; simp only [List.append_assoc]
  have h2 : putAt (putAt (A ++ M ++ B) o (zs 256)) o s = (A ++ pad s) ++ zs 4 ++ B := by
    rw [h1, putAt_mid A _ s o _ hA (by rw [List.length_map])]
    unfold pad
    simp only [List.append_assoc]
  have hp := pad_len hs
  constructor
  · rw [h2, List.append_assoc, List.append_assoc, List.drop_left' hA, List.take_left' hp]
  · rw [h2, putAt_mid (A ++ pad s) B (sumB (pad s)) (o + 252) (zs 4) (by rw [List.length_append, hA, hp]) (by rw [sumB_len, zs_len]), putAt_mid A B (pg s) o M hA (by rw [pg_len hs, hM])]
    unfold pg
    simp only [List.append_assoc]
def allz (l : List UInt8) : Bool := l.all (· == 0)
/-- What the page 0 says: the head. -/
def headed (s : List UInt8) : Option (List UInt8) :=
  if (Vint.next (s.take 252) 8).2.2 = 0 ∧ (Vint.next (s.take 252) 8).1.length ≤ 200 ∧ allz ((s.take 252).drop (Vint.next (s.take 252) 8).2.1.toNat) = true then some (Vint.next (s.take 252) 8).1 else none
def opn (s : List UInt8) : List UInt8 × Int :=
  if s.length < 256 then ([], 2) else if s.length % 256 ≠ 0 then ([], 4) else if 65536 < s.length / 256 then ([], 3) else
  if (s.drop 252).take 4 ≠ sumB (s.take 252) then ([], 5) else if s.take 4 ≠ [80, 71, 70, 76] then ([], 12) else if numS s 4 4 ≠ s.length / 256 then ([], 6) else
  match headed s with
  | none => ([], 4)
  | some h => (h, 0)
end Pg
end Go.Proofs.Ytldidoaagijnhaa
