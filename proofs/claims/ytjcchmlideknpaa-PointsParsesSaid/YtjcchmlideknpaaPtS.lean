/- Points, in plain Lean: what is picked is right, and apart. -/
import Derived.Test.YtjcchmlideknpaaPtM
import Derived.Test.YtjcchmlideknpaaPtE
import Derived.Tactics
namespace Go.Proofs.Ytjcchmlideknpaa
set_option linter.unusedSimpArgs false
set_option linter.unusedVariables false
namespace Pt
open Tok (tk0 ended)
def Ord (a b : St) : Prop := a.1 < b.1 ∧ a.2 ≤ b.2
theorem ord_at {l : List St} {size : Int} (h : Orderly l size) : ∀ i j, i < j → j < l.length → Ord (l.getD i st0) (l.getD j st0) := by
  intro i j hij hj
  induction j with
  | zero => omega
  | succ j ih =>
    have h2 := (h.1 (j + 1) hj).1
    rw [if_neg (by omega)] at h2
    simp only [Nat.add_sub_cancel] at h2
    rcases Nat.lt_succ_iff_lt_or_eq.1 hij with hx | rfl
    · have := ih hx (by omega)
      exact ⟨by have := this.1; omega, by have := this.2; omega⟩
    · exact h2
theorem ord_pair {l : List St} {size : Int} (h : Orderly l size) : l.Pairwise Ord := by
  rw [List.pairwise_iff_getElem]
  intro i j hi hj hij
  have := ord_at h i j hij hj
  rw [List.getD_eq_getElem?_getD, List.getD_eq_getElem?_getD, List.getElem?_eq_getElem hi, List.getElem?_eq_getElem hj] at this
  exact this
theorem mem_getD {α : Type} {l : List α} {x : α} (d : α) (h : x ∈ l) : ∃ i, i < l.length ∧ l.getD i d = x := by
  obtain ⟨i, hi, rfl⟩ := List.getElem_of_mem h
  exact ⟨i, hi, by rw [List.getD_eq_getElem?_getD, List.getElem?_eq_getElem hi]; rfl⟩
theorem getD_mem {α : Type} {l : List α} {i : Nat} (d : α) (h : i < l.length) : l.getD i d ∈ l := by
  rw [List.getD_eq_getElem?_getD, List.getElem?_eq_getElem h]; exact List.getElem_mem _
theorem ord_range {l : List St} {size : Int} (h : Orderly l size) {x : St} (hx : x ∈ l) : 0 ≤ x.1 ∧ 0 ≤ x.2 ∧ x.2 ≤ size := by
  obtain ⟨i, hi, rfl⟩ := mem_getD st0 hx
  have h0 := (h.1 0 h.2.1).1
  rw [if_pos rfl] at h0
  have hs := (h.1 i hi).2
  rcases Nat.eq_zero_or_pos i with rfl | hp
  · exact ⟨h0.1, h0.2, hs⟩
  · have := ord_at h 0 i hp hi
    exact ⟨by have := this.1; omega, by have := this.2; omega, hs⟩
theorem pickS_sub (sp : Int) : ∀ (l : List St) (last : Int), (pickS sp l last).Sublist l
  | [], _ => List.Sublist.refl _
  | x :: l, last => by
    unfold pickS
    split
    · exact (pickS_sub sp l x.2).cons_cons x
    · exact (pickS_sub sp l last).cons x
theorem picks_sub (sp : Int) : ∀ l : List St, (picks sp l).Sublist l
  | [] => List.Sublist.refl _
  | x :: l => (pickS_sub sp l x.2).cons_cons x
theorem pickS_spaced (sp : Int) : ∀ (l : List St) (b : St) (i : Nat), i + 1 < (b :: pickS sp l b.2).length → ((b :: pickS sp l b.2).getD (i + 1) st0).2 - ((b :: pickS sp l b.2).getD i st0).2 ≥ sp
  | [], b, i, h => by simp [pickS] at h
  | x :: l, b, i, h => by
    unfold pickS at h ⊢
    by_cases hx : x.2 - b.2 ≥ sp
    · rw [if_pos hx] at h ⊢
      cases i with
      | zero => exact hx
      | succ i =>
        have := pickS_spaced sp l x i (by simpa using h)
        exact this
    · rw [if_neg hx] at h ⊢
      exact pickS_spaced sp l b i h
theorem picks_spaced (sp : Int) (l : List St) (i : Nat) (h : i + 1 < (picks sp l).length) : ((picks sp l).getD (i + 1) st0).2 - ((picks sp l).getD i st0).2 ≥ sp := by
  cases l with
  | nil => simp [picks] at h
  | cons x l => exact pickS_spaced sp l x i h
theorem pickS_near (sp : Int) (h0 : 0 < sp) : ∀ (l : List St) (b : St), (∀ x ∈ l, b.2 ≤ x.2) → l.Pairwise Ord → ∀ x ∈ l, ∃ y ∈ b :: pickS sp l b.2, y.2 ≤ x.2 ∧ x.2 - y.2 < sp
  | [], _, _, _, x, hx => absurd hx (by simp)
  | z :: l, b, hb, hp, x, hx => by
    rw [List.pairwise_cons] at hp
    unfold pickS
    by_cases hz : z.2 - b.2 ≥ sp
    · rw [if_pos hz]
      rcases List.mem_cons.1 hx with rfl | hx
      · exact ⟨x, by simp, by omega, by omega⟩
      · obtain ⟨y, hy, h1⟩ := pickS_near sp h0 l z (fun x hx => (hp.1 x hx).2) hp.2 x hx
        exact ⟨y, List.mem_cons_of_mem _ hy, h1⟩
    · rw [if_neg hz]
      rcases List.mem_cons.1 hx with rfl | hx
      · exact ⟨b, by simp, hb x (by simp), by omega⟩
      · exact pickS_near sp h0 l b (fun x hx => hb x (by simp [hx])) hp.2 x hx
theorem picks_near (sp : Int) (h0 : 0 < sp) (l : List St) (hp : l.Pairwise Ord) (x : St) (hx : x ∈ l) : ∃ y ∈ picks sp l, y.2 ≤ x.2 ∧ x.2 - y.2 < sp := by
  cases l with
  | nil => simp at hx
  | cons z l =>
    rw [List.pairwise_cons] at hp
    rcases List.mem_cons.1 hx with rfl | hx
    · exact ⟨x, by simp [picks], by omega, by omega⟩
    · exact pickS_near sp h0 l z (fun x hx => (hp.1 x hx).2) hp.2 x hx
theorem ended_iff {l : List Tok.Tk} (h : Tok.Chain 0 l) (o : Int) (i : Nat) (hi : i < l.length) : o < (l.getD i tk0).1 + (l.getD i tk0).2.1 ↔ ended l o ≤ i := by
  have := Tok.mono_split (Tok.chain_mono_end h o) i hi
  rw [Tok.count_not, decide_eq_true_iff] at this
  exact this
theorem check_last : ∀ (l : List Tok.Tk) (a size : Int), Tok.check l a size = 0 → l ≠ [] → (l.getD (l.length - 1) tk0).1 + (l.getD (l.length - 1) tk0).2.1 = size
  | [], _, _, _, h => absurd rfl h
  | [t], a, size, h, _ => by
    simp only [Tok.check] at h
    split at h
    · rename_i hc
      split at h
      · rename_i hs
        show t.1 + t.2.1 = size
        rw [hc.1]; exact hs
      · simp at h
    · simp at h
  | t :: u :: l, a, size, h, _ => by
    rw [Tok.check] at h
    split at h
    · have := check_last (u :: l) _ size h (by simp)
      simpa using this
    · simp at h
theorem ended_le (l : List Tok.Tk) (o : Int) : ended l o ≤ l.length := by unfold ended; exact List.countP_le_length
theorem ended_mono (l : List Tok.Tk) {o1 o2 : Int} (h : o1 ≤ o2) : ended l o1 ≤ ended l o2 := by
  unfold ended
  refine List.countP_mono_left fun x _ hx => ?_
  have := of_decide_eq_true hx
  exact decide_eq_true (by omega)
def frm (l : List Tok.Tk) (size o : Int) : Int := if ended l o < l.length then (l.getD (ended l o) tk0).1 else size
theorem frm_in {l : List Tok.Tk} {size o : Int} (h : Tok.check l 0 size = 0) (h0 : 0 ≤ o) (h1 : o ≤ size) : 0 ≤ frm l size o ∧ frm l size o ≤ o ∧ o - frm l size o ≤ 4096 := by
  have hch := Tok.chain_of_check l 0 size h
  have hle := ended_le l o
  unfold frm
  by_cases hn : ended l o < l.length
  · rw [if_pos hn]
    obtain ⟨k1, k2, k3, k4, k5⟩ := Tok.chain_at l 0 hch _ hn
    have k6 := (ended_iff hch o _ hn).2 (Nat.le_refl _)
    refine ⟨by omega, ?_, by omega⟩
    rcases Nat.eq_zero_or_pos (ended l o) with hz | hp
    · rw [hz] at k2 ⊢; omega
    · obtain ⟨k, hk⟩ : ∃ k, ended l o = k + 1 := ⟨ended l o - 1, by omega⟩
      have hkl : k < l.length := by omega
      have k7 := ended_iff hch o k hkl
      have k8 := Tok.chain_next l 0 hch k (by omega)
      rw [hk, k8]
      have : ¬ o < (l.getD k tk0).1 + (l.getD k tk0).2.1 := fun hx => by have := k7.1 hx; omega
      omega
  · rw [if_neg hn]
    refine ⟨by omega, ?_, by omega⟩
    by_cases hl : l = []
    · subst hl
      simp only [Tok.check] at h
      split at h
      · omega
      · simp at h
    · have hp : 0 < l.length := List.length_pos_iff.2 hl
      have h2 := check_last l 0 size h hl
      have k7 := ended_iff hch o (l.length - 1) (by omega)
      have : ¬ o < (l.getD (l.length - 1) tk0).1 + (l.getD (l.length - 1) tk0).2.1 := fun hx => by have := k7.1 hx; omega
      omega
theorem frm_mono {l : List Tok.Tk} {size o1 o2 : Int} (h : Tok.check l 0 size = 0) (h0 : 0 ≤ o1) (h1 : o1 ≤ o2) (h2 : o2 ≤ size) : frm l size o1 ≤ frm l size o2 := by
  have hch := Tok.chain_of_check l 0 size h
  have hm := ended_mono l h1
  have b1 := frm_in h h0 (by omega : o1 ≤ size)
  unfold frm at b1 ⊢
  by_cases hn : ended l o2 < l.length
  · rw [if_pos hn, if_pos (by omega)]
    rcases Nat.eq_or_lt_of_le hm with he | hlt
    · rw [he]; omega
    · obtain ⟨k1, k2, k3, k4, k5⟩ := Tok.chain_at l 0 hch _ hn
      have := k5 _ hlt
      obtain ⟨_, _, k3', _, _⟩ := Tok.chain_at l 0 hch (ended l o1) (by omega)
      omega
  · rw [if_neg hn]; omega
theorem map_getD {α β : Type} (f : α → β) (d : α) (e : β) {l : List α} {i : Nat} (h : i < l.length) : (l.map f).getD i e = f (l.getD i d) := by
  rw [List.getD_eq_getElem?_getD, List.getD_eq_getElem?_getD, List.getElem?_map, List.getElem?_eq_getElem h]; rfl
theorem pick_right {st : List St} {t : List UInt8} {l : List Tok.Tk} {sp : Int} (h1 : 1 ≤ sp) (h2 : Tok.check l 0 (t.length : Int) = 0) (h3 : Orderly st (t.length : Int)) : Right ((picks sp st).map (point t l)) := by
  have hch := Tok.chain_of_check l 0 _ h2
  obtain ⟨x0, r, rfl⟩ : ∃ x r, st = x :: r := by
    cases st with
    | nil => have := h3.2.1; simp at this
    | cons x r => exact ⟨x, r, rfl⟩
  have hx0 : x0.2 = 0 := h3.2.2
  have hsub := picks_sub sp (x0 :: r)
  have hpw := (ord_pair h3).sublist hsub
  refine ⟨by simp [picks], fun i hi => ?_⟩
  rw [List.length_map] at hi
  unfold At
  rw [map_getD (point t l) st0 p0 hi]
  have hx : ∀ x ∈ picks sp (x0 :: r), 0 ≤ x.1 ∧ 0 ≤ x.2 ∧ x.2 ≤ (t.length : Int) := fun x hm => ord_range h3 (hsub.subset hm)
  have hxi := hx _ (getD_mem st0 hi)
  refine ⟨?_, ?_, ?_⟩
  · obtain ⟨k1, k2, k3⟩ := hxi
    have hf := frm_in h2 k2 k3
    generalize (picks sp (x0 :: r)).getD i st0 = x at *
    refine ⟨k1, k2, Int.natCast_nonneg _, hf.1, hf.2.1, hf.2.2, ?_⟩
    show ((win t x.2).length : Int) = min x.2 32768
    unfold win
    rw [List.length_drop, List.length_take]
    omega
  · rintro rfl
    have he : (picks sp (x0 :: r)).getD 0 st0 = x0 := rfl
    rw [he]
    refine ⟨hx0, ?_⟩
    show ((ended l x0.2 : Nat) : Int) = 0
    rw [hx0]
    rcases Nat.eq_zero_or_pos l.length with hz | hp
    · have := ended_le l 0; omega
    · obtain ⟨q1, q2, q3, q4, _⟩ := Tok.chain_at l 0 hch 0 hp
      have := (ended_iff hch 0 0 hp).1 (by omega)
      omega
  · intro hp
    obtain ⟨k, rfl⟩ : ∃ k, i = k + 1 := ⟨i - 1, by omega⟩
    rw [Nat.add_sub_cancel, map_getD (point t l) st0 p0 (by omega : k < (picks sp (x0 :: r)).length)]
    have hs := picks_spaced sp (x0 :: r) k hi
    have hxk := hx _ (getD_mem st0 (by omega : k < (picks sp (x0 :: r)).length))
    have ho : Ord ((picks sp (x0 :: r)).getD k st0) ((picks sp (x0 :: r)).getD (k + 1) st0) := by
      rw [List.pairwise_iff_getElem] at hpw
      have := hpw k (k + 1) (by omega) hi (by omega)
      rw [List.getD_eq_getElem?_getD, List.getD_eq_getElem?_getD, List.getElem?_eq_getElem (by omega), List.getElem?_eq_getElem hi]
      exact this
    generalize (picks sp (x0 :: r)).getD k st0 = x at *
    generalize (picks sp (x0 :: r)).getD (k + 1) st0 = y at *
    have hm := ended_mono l ho.2
    exact ⟨ho.1, by show x.2 < y.2; omega, by show ((ended l x.2 : Nat) : Int) ≤ ((ended l y.2 : Nat) : Int); omega, frm_mono h2 hxk.2.1 ho.2 hxi.2.2⟩
theorem cut_at (q : Nat → Bool) (hm : ∀ i j, i < j → q j = true → q i = true) : ∀ n, ∃ k, k ≤ n ∧ (∀ i, i < k → q i = true) ∧ (∀ i, k ≤ i → i < n → q i = false)
  | 0 => ⟨0, Nat.le_refl _, fun i h => absurd h (by omega), fun i _ h => absurd h (by omega)⟩
  | n + 1 => by
    obtain ⟨k, h1, h2, h3⟩ := cut_at q hm n
    cases hq : q n with
    | true =>
      refine ⟨n + 1, Nat.le_refl _, fun i hi => ?_, fun i h h' => absurd h' (by omega)⟩
      rcases Nat.lt_succ_iff_lt_or_eq.1 hi with h | rfl
      · exact hm i n h hq
      · exact hq
    | false =>
      refine ⟨k, by omega, h2, fun i hi hi' => ?_⟩
      rcases Nat.lt_succ_iff_lt_or_eq.1 hi' with h | rfl
      · exact h3 i hi h
      · exact hq
/-- The point near a place. -/
theorem near_at {l : List P} (hr : Right l) (a : Int) : ∃ k, k ≤ l.length ∧ near l a = (k : Int) - 1 ∧ (∀ i, i < k → (l.getD i p0).out ≤ a) ∧ (∀ i, k ≤ i → i < l.length → a < (l.getD i p0).out) := by
  have hso := right_lt hr
  have hm : ∀ i j, i < j → (decide (j < l.length) && decide ((l.getD j p0).out ≤ a)) = true → (decide (i < l.length) && decide ((l.getD i p0).out ≤ a)) = true := by
    intro i j hij h
    simp only [Bool.and_eq_true, decide_eq_true_eq] at h ⊢
    have := hso i j hij h.1
    omega
  obtain ⟨k, h1, h2, h3⟩ := cut_at _ hm l.length
  have e1 : ∀ i, i < k → (l.getD i p0).out ≤ a := fun i hi => by
    have := h2 i hi
    simp only [Bool.and_eq_true, decide_eq_true_eq] at this
    exact this.2
  have e2 : ∀ i, k ≤ i → i < l.length → a < (l.getD i p0).out := fun i hi hl => by
    have := h3 i hi hl
    rw [decide_eq_true hl, Bool.true_and, decide_eq_false_iff_not] at this
    omega
  refine ⟨k, h1, ?_, e1, e2⟩
  unfold near
  rw [count_cut p0 _ l k h1 (fun i hi => decide_eq_true (e1 i hi)) (fun i hi hl => decide_eq_false (by have := e2 i hi hl; omega))]
theorem near_of {l : List P} (hr : Right l) {a : Int} {y : P} (hy : y ∈ l) (hya : y.out ≤ a) : ∃ k : Nat, near l a = (k : Int) ∧ k < l.length ∧ y.out ≤ (l.getD k p0).out ∧ (l.getD k p0).out ≤ a := by
  obtain ⟨k, h1, h2, h3, h4⟩ := near_at hr a
  obtain ⟨i, hi, rfl⟩ := mem_getD p0 hy
  have hik : i < k := by
    rcases Nat.lt_or_ge i k with h | h
    · exact h
    · have := h4 i h hi; omega
  refine ⟨k - 1, by omega, by omega, ?_, h3 _ (by omega)⟩
  rcases Nat.eq_or_lt_of_le (by omega : i ≤ k - 1) with h | h
  · rw [h]; omega
  · have := right_lt hr i (k - 1) h (by omega); omega
end Pt
end Go.Proofs.Ytjcchmlideknpaa
