/- Points, in plain Lean: what was laid down is read as it was. -/
import Derived.Test.YtjcchmlideknpaaPtM
import Derived.Tactics
namespace Go.Proofs.Ytjcchmlideknpaa
set_option linter.unusedSimpArgs false
set_option linter.unusedVariables false
namespace Pt
open Vint (putL)
theorem num_back (a c : List UInt8) (m : Nat) (hm : m < 9223372036854775808) : num (a ++ putL m ++ c) (a.length : Int) true = ((m : Int), ((a.length + (putL m).length : Nat) : Int), true) := by
  unfold num
  rw [Vint.get_back a c m hm, if_pos ⟨rfl, rfl⟩]
theorem next_back (a c x : List UInt8) (hx : x.length < 9223372036854775808) : Vint.next (a ++ Vint.text x ++ c) (a.length : Int) = (x, ((a.length + (Vint.text x).length : Nat) : Int), 0) := by
  have e : a ++ Vint.text x ++ c = a ++ putL x.length ++ (x ++ c) := by unfold Vint.text; simp only [List.append_assoc]
  have hg := Vint.get_back a (x ++ c) x.length hx
  unfold Vint.next
  rw [e, hg]
  simp only [if_true]
  have h1 : ¬ (((a ++ putL x.length ++ (x ++ c)).length : Nat) : Int) - ((a.length + (putL x.length).length : Nat) : Int) < (x.length : Int) := by
    simp only [List.length_append]; omega
  rw [if_neg h1]
  have h2 : ((a ++ putL x.length ++ (x ++ c)).drop ((a.length + (putL x.length).length : Nat) : Int).toNat) = x ++ c := by
    rw [Int.toNat_natCast]
    exact List.drop_left' (by simp only [List.length_append])
  rw [h2, Int.toNat_natCast, List.take_left' rfl]
  congr 2
  unfold Vint.text
  rw [List.length_append]; omega
theorem nat_of {x : Int} (h : 0 ≤ x) (h2 : x ≤ 9223372036854775807) : ∃ m : Nat, x = (m : Int) ∧ m < 9223372036854775808 := ⟨x.toNat, by omega, by omega⟩
theorem rdPt_back (a c : List UInt8) (p : P) (hr : InR p) (ha : Alone p) : rdPt (a ++ ptB p ++ c) (a.length : Int) = some (p, ((a.length + (ptB p).length : Nat) : Int)) := by
  obtain ⟨b, o, t, f, x⟩ := p
  obtain ⟨⟨_, hb2⟩, ⟨_, ho2⟩, ⟨_, ht2⟩, ⟨_, hf2⟩, _⟩ := hr
  obtain ⟨hb, ho, ht, hf, _, _, hx⟩ := ha
  simp only [] at *
  obtain ⟨b, rfl, hb3⟩ := nat_of hb hb2
  obtain ⟨o, rfl, ho3⟩ := nat_of ho ho2
  obtain ⟨t, rfl, ht3⟩ := nat_of ht ht2
  obtain ⟨f, rfl, hf3⟩ := nat_of hf hf2
  have hx3 : x.length < 9223372036854775808 := by omega
  have hB : ptB ⟨b, o, t, f, x⟩ = putL b ++ putL o ++ putL t ++ putL f ++ Vint.text x := by
    unfold ptB
    simp only [putS_cons, putS_nil, put_nn hb, put_nn ho, put_nn ht, put_nn hf, Int.toNat_natCast, List.append_assoc, List.append_nil]
  have s1 := num_back a (putL o ++ putL t ++ putL f ++ Vint.text x ++ c) b hb3
  have s2 := num_back (a ++ putL b) (putL t ++ putL f ++ Vint.text x ++ c) o ho3
  have s3 := num_back (a ++ putL b ++ putL o) (putL f ++ Vint.text x ++ c) t ht3
  have s4 := num_back (a ++ putL b ++ putL o ++ putL t) (Vint.text x ++ c) f hf3
  have s5 := next_back (a ++ putL b ++ putL o ++ putL t ++ putL f) c x hx3
  simp only [← List.append_assoc] at s1 s2 s3 s4 s5
  rw [hB]
  simp only [← List.append_assoc]
  generalize hS : a ++ putL b ++ putL o ++ putL t ++ putL f ++ Vint.text x ++ c = S at *
  simp only [List.length_append] at s1 s2 s3 s4 s5
  have n2 : num2 S a.length = ((o : Int), ((a.length + (putL b).length + (putL o).length : Nat) : Int), true) := by unfold num2; rw [s1]; exact s2
  have n3 : num3 S a.length = ((t : Int), ((a.length + (putL b).length + (putL o).length + (putL t).length : Nat) : Int), true) := by unfold num3; rw [n2]; exact s3
  have n4 : num4 S a.length = ((f : Int), ((a.length + (putL b).length + (putL o).length + (putL t).length + (putL f).length : Nat) : Int), true) := by unfold num4; rw [n3]; exact s4
  unfold rdPt
  rw [n4, s5, n3, n2, s1, if_pos ⟨rfl, rfl⟩]
  congr 3
  simp only [List.length_append]; omega
theorem rdPts_back (c : List UInt8) : ∀ (l : List P) (a : List UInt8) (acc : List P), (∀ p ∈ l, InR p ∧ Alone p) → rdPts (a ++ l.flatMap ptB ++ c) l.length (a.length : Int) acc = some (acc ++ l)
  | [], a, acc, _ => by simp [rdPts]
  | p :: l, a, acc, h => by
    have h1 := rdPt_back a (l.flatMap ptB ++ c) p (h p (by simp)).1 (h p (by simp)).2
    have e : a ++ (p :: l).flatMap ptB ++ c = a ++ ptB p ++ (l.flatMap ptB ++ c) := by rw [List.flatMap_cons]; simp only [List.append_assoc]
    rw [e, List.length_cons, rdPts, h1]
    simp only []
    have h2 := rdPts_back c l (a ++ ptB p) (acc ++ [p]) fun q hq => h q (by simp [hq])
    rw [List.length_append] at h2
    rw [← List.append_assoc, h2, List.append_assoc]; rfl
theorem head_eq (n : Nat) : head n = [82, 83, 84, 80] ++ putL n := by
  unfold head
  rw [putS_cons, putS_nil, put_nn (by omega), Int.toNat_natCast, List.append_nil]
theorem read_back (l : List P) (hl : l.length < 9223372036854775808) (h : ∀ p ∈ l, InR p ∧ Alone p) : read (bytes l) = some l := by
  have e : bytes l = [82, 83, 84, 80] ++ putL l.length ++ l.flatMap ptB := by unfold bytes; rw [head_eq]
  have h1 := num_back [82, 83, 84, 80] (l.flatMap ptB) l.length hl
  have h2 := rdPts_back [] l ([82, 83, 84, 80] ++ putL l.length) [] h
  rw [List.append_nil, List.nil_append, List.length_append] at h2
  rw [← e] at h1 h2
  have h4 : (([82, 83, 84, 80] : List UInt8).length : Int) = 4 := rfl
  rw [h4] at h1
  unfold read
  rw [h1, if_pos rfl]
  simp only [Int.toNat_natCast]
  exact h2
theorem parse_back (l : List P) (hl : l.length ≤ 1000000) (hin : ∀ p ∈ l, InR p) (hr : Right l) : parse (build l).1 = (l, 0) := by
  have hb : build l = (bytes l ++ sumB (bytes l), 0) := by unfold build; rw [if_pos hr]
  have hrd := read_back l (by omega) fun p hp => ⟨hin p hp, right_alone hr hp⟩
  have hs := sumB_len (bytes l)
  have hh : bytes l = [82, 83, 84, 80] ++ (putL l.length ++ l.flatMap ptB) := by unfold bytes; rw [head_eq, List.append_assoc]
  have hp := Vint.putL_pos l.length
  have hlen : 5 ≤ (bytes l).length := by rw [hh]; simp only [List.length_append, List.length_cons, List.length_nil]; omega
  have hl4 : (bytes l ++ sumB (bytes l)).length - 4 = (bytes l).length := by rw [List.length_append]; omega
  have ht : (bytes l ++ sumB (bytes l)).take 4 = [82, 83, 84, 80] := by rw [hh]; rfl
  unfold parse
  rw [hb]
  simp only []
  rw [if_neg (by rw [List.length_append]; omega), if_neg (by rw [ht]; simp), hl4, List.drop_left' rfl, List.take_left' rfl, if_neg (by simp), hrd]
  simp only []
  rw [if_pos hb]
theorem parse_ok {s : List UInt8} (h : (parse s).2 = 0) : build (parse s).1 = (s, 0) := by
  unfold parse at h ⊢
  split at h
  · exact absurd h (by simp)
  · rename_i h1
    split at h
    · exact absurd h (by simp)
    · rename_i h2
      split at h
      · exact absurd h (by simp)
      · rename_i h3
        rw [if_neg h1, if_neg h2, if_neg h3]
        split at h
        · exact absurd h (by simp)
        · rename_i l hl
          split at h
          · rename_i h4; rw [if_pos h4]; exact h4
          · exact absurd h (by simp)
theorem parse_err {s : List UInt8} (h : ¬ (parse s).2 = 0) : (parse s).1 = [] := by
  unfold parse at h ⊢
  split
  · rfl
  · rename_i h1
    rw [if_neg h1] at h
    split
    · rfl
    · rename_i h2
      rw [if_neg h2] at h
      split
      · rfl
      · rename_i h3
        rw [if_neg h3] at h
        split
        · rfl
        · rename_i l hl
          rw [hl] at h
          simp only [] at h
          split
          · rename_i h4; rw [if_pos h4] at h; exact absurd rfl h
          · rfl
theorem build_right {l : List P} (h : (build l).2 = 0) : Right l := by
  unfold build at h
  split at h
  · assumption
  · exact absurd h (by decide)
end Pt
end Go.Proofs.Ytjcchmlideknpaa
