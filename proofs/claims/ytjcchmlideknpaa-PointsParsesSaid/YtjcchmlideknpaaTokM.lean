/- Tokens, as plain functions. -/
import Derived.Test.YtjcchmlideknpaaRead
namespace Go.Proofs.Ytjcchmlideknpaa
set_option linter.unusedSimpArgs false
set_option linter.unusedVariables false
namespace Tok
open H
/-- A token: where it begins, its bytes, its kind. -/
abbrev Tk := Int × Int × Int
def tk0 : Tk := (0, 0, 0)
def tkC (t : Tk) : List Value := [.int .i64 t.1, .int .i64 t.2.1, .int .i64 t.2.2]
def Right (t : Tk) : Prop := if t.2.2 = -1 then t.2.1 = 1 else 0 ≤ t.2.2 ∧ t.2.2 < 32 ∧ 1 ≤ t.2.1 ∧ t.2.1 ≤ 4096
instance (t : Tk) : Decidable (Right t) := by unfold Right; infer_instance
def check : List Tk → Int → Int → Int
  | [], a, size => if a = size then 0 else 24
  | t :: l, a, size => if t.1 = a ∧ Right t then check l (a + t.2.1) size else 24
def nth (l : List Tk) (n : Int) : Tk × Int := if n < 0 then (tk0, 1) else if (l.length : Int) ≤ n then (tk0, 21) else (l.getD n.toNat tk0, 0)
def betw (l : List Tk) (lo hi : Int) : List Tk := l.filter fun t => decide (lo ≤ t.1) && decide (t.1 < hi)
def ofk (l : List Tk) (k : Int) : List Tk := l.filter fun t => decide (t.2.2 = k)
def ended (l : List Tk) (a : Int) : Nat := l.countP fun t => decide (t.1 + t.2.1 ≤ a)
/-- The token that has a byte, by search from the first one on. -/
def find (a : Int) : List Tk → Nat → Option Nat
  | [], _ => none
  | t :: l, i => if t.1 ≤ a ∧ a < t.1 + t.2.1 then some i else find a l (i + 1)
def covF : Option Nat → Int × Int
  | some i => ((i : Int), 0)
  | none => (0, 21)
def covering (l : List Tk) (a : Int) : Int × Int := if a < 0 then (0, 1) else covF (find a l 0)
/-- One behind the other from a on. -/
def Chain : Int → List Tk → Prop
  | _, [] => True
  | a, t :: l => t.1 = a ∧ 1 ≤ t.2.1 ∧ t.2.1 ≤ 4096 ∧ Chain (a + t.2.1) l
def size (l : List Tk) : Int := if l = [] then 0 else (l.getD (l.length - 1) tk0).1 + (l.getD (l.length - 1) tk0).2.1

theorem right_bounds {t : Tk} (h : Right t) : 1 ≤ t.2.1 ∧ t.2.1 ≤ 4096 := by
  unfold Right at h
  split at h <;> omega
theorem drop_cons {l : List Tk} {i : Nat} (h : i < l.length) : l.drop i = l.getD i tk0 :: l.drop (i + 1) := by
  rw [List.drop_eq_getElem_cons h, List.getD_eq_getElem?_getD, List.getElem?_eq_getElem h]; rfl
theorem take_succ {l : List Tk} {i : Nat} (h : i < l.length) : l.take (i + 1) = l.take i ++ [l.getD i tk0] := by
  rw [List.take_add_one, List.getD_eq_getElem?_getD, List.getElem?_eq_getElem h]; rfl
theorem chain_of_check : ∀ (l : List Tk) (a size : Int), check l a size = 0 → Chain a l
  | [], _, _, _ => trivial
  | t :: l, a, size, h => by
    simp only [check] at h
    split at h
    · rename_i hc
      have := right_bounds hc.2
      exact ⟨hc.1, this.1, this.2, chain_of_check l _ _ h⟩
    · simp at h
/-- All places of a chain. -/
theorem chain_at : ∀ (l : List Tk) (a : Int), Chain a l → ∀ i, i < l.length → (l.getD i tk0).1 ≥ a + i ∧ (l.getD i tk0).1 ≤ a + 4096 * i ∧ 1 ≤ (l.getD i tk0).2.1 ∧ (l.getD i tk0).2.1 ≤ 4096 ∧ ∀ j, j < i → (l.getD j tk0).1 + (l.getD j tk0).2.1 ≤ (l.getD i tk0).1
  | [], _, _, i, hi => absurd hi (by simp)
  | t :: l, a, ⟨h1, h2, h3, h4⟩, i, hi => by
    cases i with
    | zero => simp only [List.getD_cons_zero]; exact ⟨by omega, by omega, h2, h3, fun j hj => absurd hj (by omega)⟩
    | succ i =>
      have hi' : i < l.length := by simpa using hi
      obtain ⟨k1, k2, k3, k4, k5⟩ := chain_at l _ h4 i hi'
      simp only [List.getD_cons_succ]
      refine ⟨by omega, by omega, k3, k4, fun j hj => ?_⟩
      cases j with
      | zero => simp only [List.getD_cons_zero]; omega
      | succ j => simp only [List.getD_cons_succ]; exact k5 j (by omega)
theorem chain_next : ∀ (l : List Tk) (a : Int), Chain a l → ∀ i, i + 1 < l.length → (l.getD (i + 1) tk0).1 = (l.getD i tk0).1 + (l.getD i tk0).2.1
  | [], _, _, i, hi => absurd hi (by simp)
  | [t], _, _, i, hi => absurd hi (by simp)
  | t :: u :: l, a, ⟨h1, h2, h3, h4⟩, i, hi => by
    cases i with
    | zero => simp only [List.getD_cons_zero, List.getD_cons_succ]; have := h4.1; omega
    | succ i =>
      simp only [List.getD_cons_succ]
      exact chain_next (u :: l) _ h4 i (by simpa using hi)
/-- A search's end. -/
theorem count_split {p : Tk → Bool} : ∀ (l : List Tk) (k : Nat), k ≤ l.length → (∀ i, i < k → p (l.getD i tk0) = false) → (∀ i, k ≤ i → i < l.length → p (l.getD i tk0) = true) → k = l.countP fun t => !p t
  | [], k, hk, _, _ => by simp at hk ⊢; exact hk
  | t :: l, k, hk, h1, h2 => by
    cases k with
    | zero =>
      symm
      rw [List.countP_eq_zero]
      intro x hx
      obtain ⟨i, hi⟩ := List.mem_iff_getElem?.1 hx
      have hil : i < (t :: l).length := (List.getElem?_eq_some_iff.1 hi).1
      have := h2 i (by omega) hil
      rw [List.getD_eq_getElem?_getD, hi] at this
      have : p x = true := this
      simp [this]
    | succ k =>
      have h0 := h1 0 (by omega)
      simp only [List.getD_cons_zero] at h0
      rw [List.countP_cons_of_pos (by simp [h0]), ← count_split l k (by simpa using hk) (fun i hi => by simpa using h1 (i + 1) (by omega)) (fun i hi hil => by simpa using h2 (i + 1) (by omega) (by simpa using hil))]
/-- What is so of a token is so of all behind it. -/
def Mono (p : Tk → Bool) (l : List Tk) : Prop := ∀ i j, i ≤ j → j < l.length → p (l.getD i tk0) = true → p (l.getD j tk0) = true
theorem mono_split {p : Tk → Bool} {l : List Tk} (hm : Mono p l) : ∀ i, i < l.length → (p (l.getD i tk0) = true ↔ (l.countP fun t => !p t) ≤ i) := by
  have hex : ∃ k, k ≤ l.length ∧ (∀ i, i < k → p (l.getD i tk0) = false) ∧ ∀ i, k ≤ i → i < l.length → p (l.getD i tk0) = true := by
    have : ∀ n, n ≤ l.length → (∀ i, i < n → p (l.getD i tk0) = false) ∨ ∃ k, k ≤ l.length ∧ (∀ i, i < k → p (l.getD i tk0) = false) ∧ ∀ i, k ≤ i → i < l.length → p (l.getD i tk0) = true := by
      intro n
      induction n with
      | zero => intro _; exact .inl fun i hi => absurd hi (by omega)
      | succ n ih =>
        intro hn
        rcases ih (by omega) with h | h
        · cases hp : p (l.getD n tk0) with
          | false =>
            refine .inl fun i hi => ?_
            by_cases hin : i = n
            · subst hin; exact hp
            · exact h i (by omega)
          | true => exact .inr ⟨n, by omega, h, fun i hi hil => hm n i hi hil hp⟩
        · exact .inr h
    rcases this l.length (Nat.le_refl _) with h | h
    · exact ⟨l.length, Nat.le_refl _, h, fun i hi hil => absurd hil (by omega)⟩
    · exact h
  obtain ⟨k, h0, h1, h2⟩ := hex
  have hk := count_split l k h0 h1 h2
  intro i hi
  rw [← hk]
  constructor
  · intro hp
    apply Decidable.byContradiction
    intro hlt
    rw [h1 i (by omega)] at hp; cases hp
  · intro hle; exact h2 i hle hi
theorem chain_mono_at {l : List Tk} {a0 : Int} (h : Chain a0 l) (a : Int) : Mono (fun t => decide (a ≤ t.1)) l := by
  intro i j hij hj hp
  simp only [decide_eq_true_eq] at hp ⊢
  by_cases he : i = j
  · subst he; exact hp
  · have h1 := (chain_at l a0 h j hj).2.2.2.2 i (by omega)
    have h2 := (chain_at l a0 h i (by omega)).2.2.1
    omega
theorem chain_mono_end {l : List Tk} {a0 : Int} (h : Chain a0 l) (a : Int) : Mono (fun t => decide (a < t.1 + t.2.1)) l := by
  intro i j hij hj hp
  simp only [decide_eq_true_eq] at hp ⊢
  by_cases he : i = j
  · subst he; exact hp
  · have h1 := (chain_at l a0 h j hj).2.2.2.2 i (by omega)
    have h2 := (chain_at l a0 h j hj).2.2.1
    omega
theorem count_not (l : List Tk) (a : Int) : (l.countP fun t => !decide (a < t.1 + t.2.1)) = ended l a := by
  unfold ended
  congr 1; funext t
  by_cases h : a < t.1 + t.2.1
  · rw [decide_eq_true h, decide_eq_false (by omega)]; rfl
  · rw [decide_eq_false h, decide_eq_true (by omega)]; rfl
/-- A filter of what lies between two counts. -/
theorem filter_mid {p q : Tk → Bool} : ∀ (l : List Tk) (i j : Nat), i ≤ j → j ≤ l.length → (∀ k, k < l.length → (p (l.getD k tk0) = true ↔ i ≤ k)) → (∀ k, k < l.length → (q (l.getD k tk0) = true ↔ k < j)) → (l.filter fun t => p t && q t) = (l.drop i).take (j - i)
  | [], i, j, _, _, _, _ => by simp
  | t :: l, i, j, hij, hj, hp, hq => by
    have h0 := hp 0 (by simp)
    have q0 := hq 0 (by simp)
    simp only [List.getD_cons_zero] at h0 q0
    cases i with
    | zero =>
      cases j with
      | zero =>
        rw [List.filter_eq_nil_iff.2]
        · simp
        · intro x hx
          obtain ⟨k, hk⟩ := List.mem_iff_getElem?.1 hx
          have hkl := (List.getElem?_eq_some_iff.1 hk).1
          have := hq k hkl
          rw [List.getD_eq_getElem?_getD, hk] at this
          have : ¬ q x = true := fun h => absurd (this.1 h) (by omega)
          simp [this]
      | succ j =>
        have hb : (p t && q t) = true := by rw [h0.2 (by omega), q0.2 (by omega)]; rfl
        rw [List.filter_cons_of_pos (by simpa using hb)]
        have := filter_mid l 0 j (by omega) (by simpa using hj) (fun k hk => by have := hp (k + 1) (by simpa using hk); simpa using this) (fun k hk => by have := hq (k + 1) (by simpa using hk); simpa using this)
        rw [this]
        simp
    | succ i =>
      have hb : ¬ (p t && q t) = true := by
        intro h
        simp only [Bool.and_eq_true] at h
        exact absurd (h0.1 h.1) (by omega)
      rw [List.filter_cons_of_neg (by simpa using hb)]
      cases j with
      | zero => omega
      | succ j =>
        have := filter_mid l i j (by omega) (by simpa using hj) (fun k hk => by have := hp (k + 1) (by simpa using hk); simpa using this) (fun k hk => by have := hq (k + 1) (by simpa using hk); simpa using this)
        rw [this]
        simp
/-- What begins between two places, by two searches. -/
theorem betw_mid {l : List Tk} {a0 : Int} (h : Chain a0 l) (lo hi : Int) : betw l lo hi = (l.drop (l.countP fun t => !decide (lo ≤ t.1))).take ((l.countP fun t => !decide (hi ≤ t.1)) - l.countP fun t => !decide (lo ≤ t.1)) := by
  have h1 := mono_split (chain_mono_at h lo)
  have h2 := mono_split (chain_mono_at h hi)
  have c1 : (l.countP fun t => !decide (lo ≤ t.1)) ≤ l.length := List.countP_le_length
  have c2 : (l.countP fun t => !decide (hi ≤ t.1)) ≤ l.length := List.countP_le_length
  generalize (l.countP fun t => !decide (lo ≤ t.1)) = i at *
  generalize (l.countP fun t => !decide (hi ≤ t.1)) = j at *
  unfold betw
  have hq : ∀ k, k < l.length → (decide ((l.getD k tk0).1 < hi) = true ↔ k < j) := by
    intro k hk
    have := h2 k hk
    simp only [decide_eq_true_eq] at this ⊢
    omega
  by_cases hij : i ≤ j
  · exact filter_mid l i j hij c2 h1 hq
  · rw [show j - i = 0 by omega, List.take_zero, List.filter_eq_nil_iff]
    intro x hx
    obtain ⟨k, hk⟩ := List.mem_iff_getElem?.1 hx
    have hkl := (List.getElem?_eq_some_iff.1 hk).1
    have e1 := h1 k hkl
    have e2 := hq k hkl
    rw [List.getD_eq_getElem?_getD, hk] at e1 e2
    simp only [Option.getD_some] at e1 e2
    simp only [Bool.and_eq_true]
    rintro ⟨a, b⟩
    have := e1.1 a
    have := e2.1 b
    omega
theorem betw_take {l : List Tk} {i : Nat} (h : i < l.length) (lo hi : Int) : betw (l.take (i + 1)) lo hi = if decide (lo ≤ (l.getD i tk0).1) = true ∧ decide ((l.getD i tk0).1 < hi) = true then betw (l.take i) lo hi ++ [l.getD i tk0] else betw (l.take i) lo hi := by
  unfold betw
  rw [take_succ h, List.filter_append]
  split
  · rename_i hc; rw [List.filter_cons_of_pos (by simp only [hc.1, hc.2, Bool.and_self])]; rfl
  · rename_i hc
    rw [List.filter_cons_of_neg (by simp only [Bool.and_eq_true]; exact hc)]
    simp
theorem ofk_take {l : List Tk} {i : Nat} (h : i < l.length) (k : Int) : ofk (l.take (i + 1)) k = if (l.getD i tk0).2.2 = k then ofk (l.take i) k ++ [l.getD i tk0] else ofk (l.take i) k := by
  unfold ofk
  rw [take_succ h, List.filter_append]
  split
  · rename_i hc; rw [List.filter_cons_of_pos (by simp only [hc, decide_true])]; rfl
  · rename_i hc
    rw [List.filter_cons_of_neg (by simp only [decide_eq_true_eq]; exact hc)]
    simp
theorem ended_take {l : List Tk} {i : Nat} (h : i < l.length) (a : Int) : ended (l.take (i + 1)) a = if (l.getD i tk0).1 + (l.getD i tk0).2.1 ≤ a then ended (l.take i) a + 1 else ended (l.take i) a := by
  unfold ended
  rw [take_succ h, List.countP_append]
  split
  · rename_i hc; rw [List.countP_cons_of_pos (by simp only [hc, decide_true])]; simp
  · rename_i hc; rw [List.countP_cons_of_neg (by simp only [decide_eq_true_eq]; exact hc)]; simp
theorem filter_len_le (p : Tk → Bool) (l : List Tk) (i : Nat) (h : i ≤ l.length) : ((l.take i).filter p).length ≤ i := by
  have := List.length_filter_le p (l.take i)
  rw [List.length_take] at this
  omega
/-- Tokens of lengths and kinds. -/
def mk (a : Int) (n : UInt8) (k : Int) : Tk := if k.tmod 32 < 0 then (a, 1, -1) else (a, 1 + (n.toNat : Int), k.tmod 32)
def made : Int → List UInt8 → List Int → List Tk
  | a, n :: ns, k :: ks => mk a n k :: made (a + (mk a n k).2.1) ns ks
  | _, _, _ => []
theorem mk_len (a : Int) (n : UInt8) (k : Int) : 1 ≤ (mk a n k).2.1 ∧ (mk a n k).2.1 ≤ 256 ∧ (mk a n k).1 = a := by
  have := n.toNat_lt
  unfold mk
  split
  · exact ⟨Int.le_refl 1, (by omega : (1 : Int) ≤ 256), rfl⟩
  · refine ⟨?_, ?_, rfl⟩
    · show 1 ≤ 1 + (n.toNat : Int); omega
    · show 1 + (n.toNat : Int) ≤ 256; omega
theorem made_chain : ∀ (a : Int) (ns : List UInt8) (ks : List Int), Chain a (made a ns ks)
  | a, [], _ => by simp [made, Chain]
  | a, _ :: _, [] => by simp [made, Chain]
  | a, n :: ns, k :: ks => by
    have := mk_len a n k
    exact ⟨this.2.2, this.1, by omega, made_chain _ ns ks⟩
theorem made_len : ∀ (a : Int) (ns : List UInt8) (ks : List Int), (made a ns ks).length = min ns.length ks.length
  | a, [], _ => by simp [made]
  | a, _ :: _, [] => by simp [made]
  | a, n :: ns, k :: ks => by simp only [made, List.length_cons, made_len]; omega
theorem find_none {a : Int} : ∀ (l : List Tk) (i : Nat), (∀ t ∈ l, ¬ (t.1 ≤ a ∧ a < t.1 + t.2.1)) → find a l i = none
  | [], _, _ => rfl
  | t :: l, i, h => by rw [find, if_neg (h t (by simp))]; exact find_none l _ fun u hu => h u (by simp [hu])
theorem find_some {a : Int} : ∀ (l : List Tk) (i k : Nat), k < l.length → ((l.getD k tk0).1 ≤ a ∧ a < (l.getD k tk0).1 + (l.getD k tk0).2.1) → (∀ j, j < k → ¬ ((l.getD j tk0).1 ≤ a ∧ a < (l.getD j tk0).1 + (l.getD j tk0).2.1)) → find a l i = some (i + k)
  | [], _, _, h, _, _ => absurd h (by simp)
  | t :: l, i, k, h, h1, h2 => by
    rw [find]
    cases k with
    | zero => rw [if_pos (by simpa using h1)]; simp
    | succ k =>
      rw [if_neg (by have := h2 0 (by omega); simpa using this)]
      rw [find_some l (i + 1) k (by simpa using h) (by simpa using h1) (fun j hj => by have := h2 (j + 1) (by omega); simpa using this)]
      congr 1; omega
/-- The covering token of a chain is the one behind as many as end by it. -/
theorem covering_chain {l : List Tk} (h : Chain 0 l) (a : Int) : covering l a = if a < 0 then (0, 1) else if ended l a = l.length then (0, 21) else ((ended l a : Int), 0) := by
  unfold covering
  by_cases h0 : a < 0
  · rw [if_pos h0, if_pos h0]
  · rw [if_neg h0, if_neg h0]
    have hm := mono_split (chain_mono_end h a)
    rw [count_not] at hm
    have hle : ended l a ≤ l.length := List.countP_le_length
    by_cases he : ended l a = l.length
    · rw [if_pos he, find_none l 0]
      · rfl
      intro t ht
      obtain ⟨k, hk⟩ := List.mem_iff_getElem?.1 ht
      have hkl := (List.getElem?_eq_some_iff.1 hk).1
      have := hm k hkl
      rw [List.getD_eq_getElem?_getD, hk] at this
      simp only [Option.getD_some, decide_eq_true_eq] at this
      intro hc
      have := this.1 hc.2
      omega
    · rw [if_neg he]
      have hlt : ended l a < l.length := by omega
      have h1 := (hm (ended l a) hlt).2 (Nat.le_refl _)
      simp only [decide_eq_true_eq] at h1
      have h2 : (l.getD (ended l a) tk0).1 ≤ a := by
        rcases Nat.eq_zero_or_pos (ended l a) with hz | hp
        · have := (chain_at l 0 h 0 (by omega)).2.1
          rw [hz]; omega
        · have hn := chain_next l 0 h (ended l a - 1) (by omega)
          rw [show ended l a - 1 + 1 = ended l a by omega] at hn
          have := hm (ended l a - 1) (by omega)
          simp only [decide_eq_true_eq] at this
          have : ¬ a < (l.getD (ended l a - 1) tk0).1 + (l.getD (ended l a - 1) tk0).2.1 := fun hc => by have := this.1 hc; omega
          omega
      rw [find_some l 0 (ended l a) hlt ⟨h2, h1⟩ fun j hj hc => by
        have := (hm j (by omega)).1 (by simp only [decide_eq_true_eq]; exact hc.2)
        omega]
      rw [Nat.zero_add]; rfl
theorem chain_small {l : List Tk} (h : Chain 0 l) (hl : l.length ≤ 2147483648) : ∀ t ∈ l, -1152921504606846976 ≤ t.1 ∧ t.1 ≤ 1152921504606846976 ∧ -1152921504606846976 ≤ t.2.1 ∧ t.2.1 ≤ 1152921504606846976 := by
  intro t ht
  obtain ⟨k, hk⟩ := List.mem_iff_getElem?.1 ht
  have hkl := (List.getElem?_eq_some_iff.1 hk).1
  have := chain_at l 0 h k hkl
  rw [List.getD_eq_getElem?_getD, hk] at this
  simp only [Option.getD_some] at this
  omega
/-- What begins up to a place, and from there on. -/
theorem betw_parts {l : List Tk} {a0 : Int} (h : Chain a0 l) (lo mid hi : Int) (h1 : lo ≤ mid) (h2 : mid ≤ hi) : betw l lo mid ++ betw l mid hi = betw l lo hi := by
  induction l generalizing a0 with
  | nil => rfl
  | cons t l ih =>
    obtain ⟨k1, k2, k3, k4⟩ := h
    have ih := ih k4
    unfold betw at ih ⊢
    by_cases c1 : t.1 < mid
    · have e2 : (decide (mid ≤ t.1) && decide (t.1 < hi)) = false := by rw [decide_eq_false (by omega)]; rfl
      rw [List.filter_cons_of_neg (a := t) (l := l) (p := fun t => decide (mid ≤ t.1) && decide (t.1 < hi)) (by simp [e2])]
      by_cases c2 : lo ≤ t.1
      · rw [List.filter_cons_of_pos (by simp [c1, c2]), List.filter_cons_of_pos (by simp; omega), List.cons_append, ih]
      · rw [List.filter_cons_of_neg (by simp [c2]), List.filter_cons_of_neg (by simp [c2]), ih]
    · -- all from here on begin behind mid
      have hall : ∀ u ∈ t :: l, ¬ u.1 < mid := by
        intro u hu
        obtain ⟨k, hk⟩ := List.mem_iff_getElem?.1 hu
        have hkl := (List.getElem?_eq_some_iff.1 hk).1
        have := (chain_at (t :: l) t.1 ⟨rfl, k2, k3, by rw [k1]; exact k4⟩ k hkl).1
        rw [List.getD_eq_getElem?_getD, hk] at this
        simp only [Option.getD_some] at this
        omega
      rw [List.filter_eq_nil_iff.2 (fun u hu => by have := hall u hu; simp [this]), List.nil_append]
      refine List.filter_congr fun u hu => ?_
      have := hall u hu
      rw [decide_eq_true (show mid ≤ u.1 by omega), decide_eq_true (show lo ≤ u.1 by omega)]
end Tok
end Go.Proofs.Ytjcchmlideknpaa
