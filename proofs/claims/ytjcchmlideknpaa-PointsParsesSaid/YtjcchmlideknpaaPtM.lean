/- Points, as plain functions. -/
import Derived.Test.YtjcchmlideknpaaVintP
import Derived.Test.YtjcchmlideknpaaCrcM
import Derived.Test.YtjcchmlideknpaaTokM
namespace Go.Proofs.Ytjcchmlideknpaa
set_option linter.unusedSimpArgs false
set_option linter.unusedVariables false
namespace Pt
open H
structure P where
  bit : Int
  out : Int
  tok : Int
  frm : Int
  win : List UInt8
  deriving DecidableEq
def p0 : P := ⟨0, 0, 0, 0, []⟩
def ptC (p : P) : List Value := [.int .i64 p.bit, .int .i64 p.out, .int .i64 p.tok, .int .i64 p.frm, str p.win]
def In64 (x : Int) : Prop := -9223372036854775808 ≤ x ∧ x ≤ 9223372036854775807
/-- What a value of the program can hold. -/
def InR (p : P) : Prop := In64 p.bit ∧ In64 p.out ∧ In64 p.tok ∧ In64 p.frm ∧ p.win.length ≤ maxLen
def Alone (p : P) : Prop := 0 ≤ p.bit ∧ 0 ≤ p.out ∧ 0 ≤ p.tok ∧ 0 ≤ p.frm ∧ p.frm ≤ p.out ∧ p.out - p.frm ≤ 4096 ∧ (p.win.length : Int) = min p.out 32768
def Follows (a b : P) : Prop := a.bit < b.bit ∧ a.out < b.out ∧ a.tok ≤ b.tok ∧ a.frm ≤ b.frm
instance (p : P) : Decidable (Alone p) := by unfold Alone; infer_instance
instance (a b : P) : Decidable (Follows a b) := by unfold Follows; infer_instance
def At (l : List P) (i : Nat) : Prop := Alone (l.getD i p0) ∧ (i = 0 → (l.getD i p0).out = 0 ∧ (l.getD i p0).tok = 0) ∧ (0 < i → Follows (l.getD (i - 1) p0) (l.getD i p0))
instance (l : List P) (i : Nat) : Decidable (At l i) := by unfold At; infer_instance
def Right (l : List P) : Prop := 0 < l.length ∧ ∀ i, i < l.length → At l i
instance (l : List P) : Decidable (Right l) := by unfold Right; infer_instance
def putS (l : List Int) : List UInt8 := l.flatMap fun n => (Vint.put n).1
def ptB (p : P) : List UInt8 := putS [p.bit, p.out, p.tok, p.frm] ++ Vint.text p.win
def head (n : Nat) : List UInt8 := [82, 83, 84, 80] ++ putS [(n : Int)]
def bytes (l : List P) : List UInt8 := head l.length ++ l.flatMap ptB
def sumB (s : List UInt8) : List UInt8 := Vint.fixL 4 (Crc.of s).toNat
def build (l : List P) : List UInt8 × Int := if Right l then (bytes l ++ sumB (bytes l), 0) else ([], 4)
/-- The number at a place, as long as all was there. -/
def num (s : List UInt8) (a : Int) (wh : Bool) : Int × Int × Bool := if wh = true ∧ (Vint.get s a).2.2 = 0 then ((Vint.get s a).1, (Vint.get s a).2.1, true) else (0, a, false)
def num2 (s : List UInt8) (a : Int) : Int × Int × Bool := num s (num s a true).2.1 (num s a true).2.2
def num3 (s : List UInt8) (a : Int) : Int × Int × Bool := num s (num2 s a).2.1 (num2 s a).2.2
def num4 (s : List UInt8) (a : Int) : Int × Int × Bool := num s (num3 s a).2.1 (num3 s a).2.2
/-- The point at a place, and the place behind it. -/
def rdPt (s : List UInt8) (a : Int) : Option (P × Int) :=
  if (num4 s a).2.2 = true ∧ (Vint.next s (num4 s a).2.1).2.2 = 0 then some (⟨(num s a true).1, (num2 s a).1, (num3 s a).1, (num4 s a).1, (Vint.next s (num4 s a).2.1).1⟩, (Vint.next s (num4 s a).2.1).2.1) else none
def rdPts (s : List UInt8) : Nat → Int → List P → Option (List P)
  | 0, _, acc => some acc
  | n + 1, a, acc => match rdPt s a with
    | none => none
    | some (p, a') => rdPts s n a' (acc ++ [p])
def read (s : List UInt8) : Option (List P) := if (num s 4 true).2.2 = true then rdPts s (num s 4 true).1.toNat (num s 4 true).2.1 [] else none
def parse (s : List UInt8) : List P × Int :=
  if s.length < 8 then ([], 2) else if s.take 4 ≠ [82, 83, 84, 80] then ([], 12) else if s.drop (s.length - 4) ≠ sumB (s.take (s.length - 4)) then ([], 5) else
  match read (s.take (s.length - 4)) with
  | none => ([], 4)
  | some l => if build l = (s, 0) then (l, 0) else ([], 4)
/-- A start: its bit and where its text begins. -/
abbrev St := Int × Int
def st0 : St := (0, 0)
def stC (x : St) : List Value := [.int .i64 x.1, .int .i64 x.2]
def OAt (l : List St) (size : Int) (i : Nat) : Prop := (if i = 0 then 0 ≤ (l.getD i st0).1 ∧ 0 ≤ (l.getD i st0).2 else (l.getD (i - 1) st0).1 < (l.getD i st0).1 ∧ (l.getD (i - 1) st0).2 ≤ (l.getD i st0).2) ∧ (l.getD i st0).2 ≤ size
instance (l : List St) (size : Int) (i : Nat) : Decidable (OAt l size i) := by unfold OAt; infer_instance
def Orderly (l : List St) (size : Int) : Prop := (∀ i, i < l.length → OAt l size i) ∧ 0 < l.length ∧ (l.getD 0 st0).2 = 0
instance (l : List St) (size : Int) : Decidable (Orderly l size) := by unfold Orderly; infer_instance
def win (t : List UInt8) (o : Int) : List UInt8 := (t.take o.toNat).drop (o - 32768).toNat
def point (t : List UInt8) (l : List Tok.Tk) (x : St) : P := ⟨x.1, x.2, (Tok.ended l x.2 : Nat), if Tok.ended l x.2 < l.length then (l.getD (Tok.ended l x.2) Tok.tk0).1 else (t.length : Int), win t x.2⟩
/-- Which starts are taken, with the last one that was. -/
def pickS (sp : Int) : List St → Int → List St
  | [], _ => []
  | x :: l, last => if x.2 - last ≥ sp then x :: pickS sp l x.2 else pickS sp l last
def picks (sp : Int) : List St → List St
  | [] => []
  | x :: l => x :: pickS sp l x.2
def pick (st : List St) (t : List UInt8) (l : List Tok.Tk) (sp : Int) : List P × Int :=
  if sp < 1 then ([], 1) else if Tok.check l 0 (t.length : Int) ≠ 0 ∨ ¬ Orderly st (t.length : Int) then ([], 24) else ((picks sp st).map (point t l), 0)
/-- How many points are not behind a place (the list is in order). -/
def near (l : List P) (a : Int) : Int := (l.countP fun p => decide (p.out ≤ a) : Nat) - 1

theorem right_alone {l : List P} (h : Right l) {p : P} (hp : p ∈ l) : Alone p := by
  obtain ⟨i, hi, rfl⟩ := List.getElem_of_mem hp
  have := (h.2 i hi).1
  rw [List.getD_eq_getElem?_getD, List.getElem?_eq_getElem hi] at this
  exact this
theorem put_nn {n : Int} (h : 0 ≤ n) : (Vint.put n).1 = Vint.putL n.toNat := by unfold Vint.put; rw [if_neg (by omega)]
theorem put_len {n : Int} (h : n ≤ 9223372036854775807) : (Vint.put n).1.length ≤ 9 := by
  unfold Vint.put
  split
  · simp
  · exact Vint.putL_len9 _ (by omega)
theorem putS_cons (n : Int) (l : List Int) : putS (n :: l) = (Vint.put n).1 ++ putS l := by simp [putS]
theorem putS_nil : putS [] = [] := rfl
theorem putS_snoc (n : Int) (l : List Int) : putS (l ++ [n]) = putS l ++ (Vint.put n).1 := by simp [putS]
theorem putS_len (l : List Int) (h : ∀ n ∈ l, n ≤ 9223372036854775807) : (putS l).length ≤ 9 * l.length := by
  induction l with
  | nil => simp [putS]
  | cons n l ih =>
    have := put_len (h n (by simp))
    have := ih fun m hm => h m (by simp [hm])
    rw [putS_cons, List.length_append, List.length_cons]; omega
theorem text_len (s : List UInt8) (h : s.length < 9223372036854775808) : (Vint.text s).length ≤ 9 + s.length := by
  have := Vint.putL_len9 s.length h
  unfold Vint.text
  rw [List.length_append]; omega
theorem ptB_len {p : P} (hr : InR p) (ha : Alone p) : (ptB p).length ≤ 32813 := by
  obtain ⟨h1, h2, h3, h4, _⟩ := hr
  have hw : p.win.length ≤ 32768 := by obtain ⟨_, _, _, _, _, _, h⟩ := ha; omega
  have := text_len p.win (by omega)
  have := putS_len [p.bit, p.out, p.tok, p.frm] (by
    intro n hn
    simp only [List.mem_cons, List.not_mem_nil, or_false] at hn
    rcases hn with rfl | rfl | rfl | rfl
    · exact h1.2
    · exact h2.2
    · exact h3.2
    · exact h4.2)
  unfold ptB
  rw [List.length_append]
  simp only [List.length_cons, List.length_nil] at this
  omega
theorem flat_len {l : List P} (h : ∀ p ∈ l, InR p ∧ Alone p) : (l.flatMap ptB).length ≤ 32813 * l.length := by
  induction l with
  | nil => simp
  | cons p l ih =>
    have := ptB_len (h p (by simp)).1 (h p (by simp)).2
    have := ih fun q hq => h q (by simp [hq])
    rw [List.flatMap_cons, List.length_append, List.length_cons]; omega
theorem head_len (n : Nat) (h : n ≤ 9223372036854775807) : (head n).length ≤ 13 := by
  have := putS_len [(n : Int)] (by simp; omega)
  unfold head
  rw [List.length_append]
  simp only [List.length_cons, List.length_nil] at *
  omega
theorem bytes_len {l : List P} (h : ∀ p ∈ l, InR p) (hr : Right l) (hl : l.length ≤ 1000000) : (bytes l).length ≤ 32813000013 := by
  have := flat_len fun p hp => ⟨h p hp, right_alone hr hp⟩
  have := head_len l.length (by omega)
  unfold bytes
  rw [List.length_append]; omega
theorem num_in (s : List UInt8) (a : Int) (wh : Bool) (h0 : 0 ≤ a) (h1 : a ≤ s.length) : 0 ≤ (num s a wh).1 ∧ (num s a wh).1 ≤ 9223372036854775807 ∧ a ≤ (num s a wh).2.1 ∧ (num s a wh).2.1 ≤ s.length := by
  unfold num
  split
  · rename_i h
    obtain ⟨m, t, e, h2, h3, h4, h5, _⟩ := Vint.get_ok s a h.2
    rw [e]
    simp only []
    omega
  · simp only []; omega
theorem num2_in (s : List UInt8) (a : Int) (h0 : 0 ≤ a) (h1 : a ≤ s.length) : 0 ≤ (num2 s a).1 ∧ (num2 s a).1 ≤ 9223372036854775807 ∧ a ≤ (num2 s a).2.1 ∧ (num2 s a).2.1 ≤ s.length := by
  have h := num_in s a true h0 h1
  have k := num_in s (num s a true).2.1 (num s a true).2.2 (by omega) h.2.2.2
  unfold num2; omega
theorem num3_in (s : List UInt8) (a : Int) (h0 : 0 ≤ a) (h1 : a ≤ s.length) : 0 ≤ (num3 s a).1 ∧ (num3 s a).1 ≤ 9223372036854775807 ∧ a ≤ (num3 s a).2.1 ∧ (num3 s a).2.1 ≤ s.length := by
  have h := num2_in s a h0 h1
  have k := num_in s (num2 s a).2.1 (num2 s a).2.2 (by omega) h.2.2.2
  unfold num3; omega
theorem num4_in (s : List UInt8) (a : Int) (h0 : 0 ≤ a) (h1 : a ≤ s.length) : 0 ≤ (num4 s a).1 ∧ (num4 s a).1 ≤ 9223372036854775807 ∧ a ≤ (num4 s a).2.1 ∧ (num4 s a).2.1 ≤ s.length := by
  have h := num3_in s a h0 h1
  have k := num_in s (num3 s a).2.1 (num3 s a).2.2 (by omega) h.2.2.2
  unfold num4; omega
theorem next_in (s : List UInt8) (a : Int) (h : (Vint.next s a).2.2 = 0) : a < (Vint.next s a).2.1 ∧ (Vint.next s a).2.1 ≤ s.length ∧ (Vint.next s a).1.length ≤ s.length := by
  unfold Vint.next at h ⊢
  by_cases h1 : (Vint.get s a).2.2 = 0
  · obtain ⟨m, t, e, h2, h3, h4, h5, _⟩ := Vint.get_ok s a h1
    rw [e] at h ⊢
    simp only [if_true] at h ⊢
    split at h
    · simp at h
    · rename_i k1
      rw [if_neg k1]
      simp only [List.length_take, List.length_drop]
      omega
  · generalize Vint.get s a = g at *
    obtain ⟨g1, g2, g3⟩ := g
    simp only [] at h h1 ⊢
    rw [if_neg h1] at h
    exact absurd h h1
theorem rdPt_in {s : List UInt8} {a : Int} {p : P} {a' : Int} (h0 : 0 ≤ a) (h1 : a ≤ s.length) (hs : s.length ≤ maxLen) (h : rdPt s a = some (p, a')) : InR p ∧ a < a' ∧ a' ≤ s.length := by
  unfold rdPt at h
  split at h
  · rename_i hc
    injection h with h
    injection h with h2 h3
    have k1 := num_in s a true h0 h1
    have k2 := num2_in s a h0 h1
    have k3 := num3_in s a h0 h1
    have k4 := num4_in s a h0 h1
    have k5 := next_in s _ hc.2
    subst h2 h3
    refine ⟨⟨⟨?_, ?_⟩, ⟨?_, ?_⟩, ⟨?_, ?_⟩, ⟨?_, ?_⟩, ?_⟩, ?_, ?_⟩ <;> (first | omega | (simp only []; omega))
  · cases h
theorem rdPts_in {s : List UInt8} (hs : s.length ≤ maxLen) : ∀ (n : Nat) (a : Int) (acc l : List P), 0 ≤ a → a ≤ s.length → (∀ p ∈ acc, InR p) → (acc.length : Int) ≤ a → rdPts s n a acc = some l → (∀ p ∈ l, InR p) ∧ l.length ≤ s.length
  | 0, a, acc, l, h0, h1, h2, h3, h => by
    injection h with h
    subst h
    exact ⟨h2, by omega⟩
  | n + 1, a, acc, l, h0, h1, h2, h3, h => by
    unfold rdPts at h
    split at h
    · cases h
    · rename_i p a' hp
      obtain ⟨k1, k2, k3⟩ := rdPt_in h0 h1 hs hp
      refine rdPts_in hs n a' _ l (by omega) k3 (fun q hq => ?_) (by rw [List.length_append, List.length_singleton]; omega) h
      rcases List.mem_append.1 hq with hq | hq
      · exact h2 q hq
      · obtain rfl := List.mem_singleton.1 hq
        exact k1
theorem read_in {s : List UInt8} (hs : s.length ≤ maxLen) (h4 : 4 ≤ s.length) {l : List P} (h : read s = some l) : (∀ p ∈ l, InR p) ∧ l.length ≤ s.length := by
  unfold read at h
  split at h
  · have k := num_in s 4 true (by omega) (by omega)
    exact rdPts_in hs _ _ [] l (by omega) k.2.2.2 (by simp) (by simp; omega) h
  · cases h
theorem sumB_len (s : List UInt8) : (sumB s).length = 4 := Vint.fixL_len _ _
end Pt
end Go.Proofs.Ytjcchmlideknpaa
