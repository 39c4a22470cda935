/- Plain laws of texts that stand one behind the other. -/
import Derived.Test.YtmbenaehnmdbgaaVintP
namespace Go.Proofs.Ytmbenaehnmdbgaa
set_option linter.unusedSimpArgs false
set_option linter.unusedVariables false
namespace Vint
theorem next_back (a s c : List UInt8) (hs : s.length < 9223372036854775808) : next (a ++ text s ++ c) (a.length : Int) = (s, ((a.length + (text s).length : Nat) : Int), 0) := by
  have hg := get_back a (s ++ c) s.length hs
  have e : a ++ putL s.length ++ (s ++ c) = a ++ text s ++ c := by simp [text]
  rw [e] at hg
  have hl : (a ++ text s ++ c).length = a.length + (putL s.length).length + s.length + c.length := by simp [text]; omega
  unfold next
  rw [hg]
  simp only [if_true]
  rw [if_neg (by omega), Int.toNat_natCast, Int.toNat_natCast]
  have hd : (a ++ text s ++ c).drop (a.length + (putL s.length).length) = s ++ c := by
    rw [← e, ← List.length_append, List.drop_left]
  rw [hd, List.take_left]
  simp only [text, List.length_append, Prod.mk.injEq, true_and, and_true]
  omega
/-- Texts one behind the other. -/
def rows (l : List (List UInt8)) : List UInt8 := l.flatMap text
theorem rows_take (l : List (List UInt8)) (k : Nat) (h : k < l.length) : rows (l.take (k + 1)) = rows (l.take k) ++ text (l.getD k []) := by
  unfold rows
  rw [List.take_add_one, List.flatMap_append, List.getD_eq_getElem?_getD, List.getElem?_eq_getElem h]
  simp
theorem text_len (s : List UInt8) (h : s.length ≤ 2000) : (text s).length ≤ 2009 ∧ s.length < (text s).length := by
  have h1 := putL_len9 s.length (by omega)
  have h2 := putL_pos s.length
  simp only [text, List.length_append]
  omega
theorem rows_split (l : List (List UInt8)) (k m : Nat) (hk : k < m) (hm : m ≤ l.length) : rows (l.take m) = rows (l.take k) ++ text (l.getD k []) ++ rows ((l.take m).drop (k + 1)) := by
  rw [← rows_take l k (by omega)]
  unfold rows
  rw [← List.flatMap_append]
  congr 1
  have : l.take (k + 1) = (l.take m).take (k + 1) := by rw [List.take_take]; congr 1; omega
  rw [this, List.take_append_drop]
end Vint
end Go.Proofs.Ytmbenaehnmdbgaa
