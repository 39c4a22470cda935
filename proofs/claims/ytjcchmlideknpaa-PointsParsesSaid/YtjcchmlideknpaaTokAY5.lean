/- tokens and its reference: the walks, first part. -/
import Derived.Test.YtjcchmlideknpaaTypes
import Derived.Test.YtjcchmlideknpaaTokM
import Derived.Test.YtjcchmlideknpaaSeg
namespace Go.Proofs.Ytjcchmlideknpaa
set_option linter.unusedSimpArgs false
set_option linter.unusedVariables false
open H

theorem tok_sl : slT Try.prog 35 56 3 24 := slT_of (by kernel_rfl)
/-- What a walk asks of a token in a row. -/
theorem tk_at {w : World} {a : Option Addr} {l : List Tok.Tk} (hr : Rd w a l.length 3 (ofL Tok.tkC Tok.tk0 l)) (i : Nat) (hi : i < l.length) :
    ∃ b o, a = some ⟨b, o, none⟩ ∧ b < w.heap.size ∧ cellsN w ⟨b, o + i * 3, none⟩ 3 = some #[.int .i64 (l.getD i Tok.tk0).1, .int .i64 (l.getD i Tok.tk0).2.1, .int .i64 (l.getD i Tok.tk0).2.2] ∧
      w.cell? ⟨b, o + i * 3, none⟩ = some (.int .i64 (l.getD i Tok.tk0).1) ∧ w.cell? ⟨b, o + i * 3 + 1, none⟩ = some (.int .i64 (l.getD i Tok.tk0).2.1) ∧ w.cell? ⟨b, o + i * 3 + 2, none⟩ = some (.int .i64 (l.getD i Tok.tk0).2.2) := by
  obtain ⟨b, o, e, hb, hc, hj⟩ := hr.at_ i hi
  refine ⟨b, o, e, hb, hc, ?_, ?_, ?_⟩
  · have := hj 0 (by omega); exact this
  · have := hj 1 (by omega); exact this
  · have := hj 2 (by omega); exact this

set_option maxHeartbeats 400000 in
theorem tok_right (a n k : Int) (w : World) : Does Try.prog 53 #[.agg #[.int .i64 a, .int .i64 n, .int .i64 k]] w fun v w' => v = .bool (decide (Tok.Right (a, n, k))) ∧ Ext [] w w' := by
  refine does (args := [.agg #[.int .i64 a, .int .i64 n, .int .i64 k]]) Try.func53 rfl (by kernel_rfl) (by kernel_rfl) rfl ent_53 (Sat.start w []) ?_; intro QV hQ
  have hR : Tok.Right (a, n, k) ↔ (if k = -1 then n = 1 else 0 ≤ k ∧ k < 32 ∧ 1 ≤ n ∧ n ≤ 4096) := Iff.rfl
  simp -implicitDefEqProofs (disch := omega) only [go_sem]
  refine RNew_intro fun g hg => ?_
  simp -implicitDefEqProofs (disch := omega) only [go_sem]
  by_cases h1 : k = -1
  · subst h1
    simp -implicitDefEqProofs (disch := omega) only [go_sem]
    exact hQ _ _ fun w' hs => ⟨by rw [Value.bool.injEq, decide_eq_decide, hR]; simp, hs.anchor (by simp)⟩
  by_cases h2 : 0 ≤ k
  · by_cases h3 : k < 32
    · by_cases h4 : 1 ≤ n
      · simp -implicitDefEqProofs (disch := omega) only [go_sem, h1, h2, h3, h4]
        exact hQ _ _ fun w' hs => ⟨by rw [Value.bool.injEq, decide_eq_decide, hR, if_neg h1]; omega, hs.anchor (by simp)⟩
      · simp -implicitDefEqProofs (disch := omega) only [go_sem, h1, h2, h3, h4]
        exact hQ _ _ fun w' hs => ⟨by rw [decide_eq_false]; rw [hR, if_neg h1]; omega, hs.anchor (by simp)⟩
    · simp -implicitDefEqProofs (disch := omega) only [go_sem, h1, h2, h3]
      exact hQ _ _ fun w' hs => ⟨by rw [decide_eq_false]; rw [hR, if_neg h1]; omega, hs.anchor (by simp)⟩
  · simp -implicitDefEqProofs (disch := omega) only [go_sem, h1, h2]
    exact hQ _ _ fun w' hs => ⟨by rw [decide_eq_false]; rw [hR, if_neg h1]; omega, hs.anchor (by simp)⟩

set_option maxHeartbeats 400000 in
theorem tok_check (l : List Tok.Tk) (a : Option Addr) (c : Nat) (size : Int) (hl : l.length ≤ 2147483648) (w : World) (hr : Rd w a l.length 3 (ofL Tok.tkC Tok.tk0 l)) :
    Does Try.prog 35 #[.slice a l.length c, .int .i64 size] w fun v w' => v = .int .i64 (Tok.check l 0 size) ∧ Ext [] w w' := by
  refine does (args := [.slice a l.length c, .int .i64 size]) Try.func35 rfl (by kernel_rfl) (by kernel_rfl) rfl ent_35 (Sat.start w []) ?_; intro QV hQ
  simp -implicitDefEqProofs (disch := omega) only [go_sem]
  refine RLoop_intro (fun f h => ∃ (i : Nat) (at_ : Int), i ≤ l.length ∧ 0 ≤ at_ ∧ at_ ≤ 4096 * i ∧ Tok.check (l.drop i) at_ size = Tok.check l 0 size ∧ f 1 = .int .i64 size ∧ f 5 = .int .i64 at_ ∧ f 8 = .slice a l.length c ∧ f 9 = .int .i64 (l.length : Int) ∧ f 10 = .int .i64 (i : Int) ∧ h = [.anchor w []]) (fun f _ => (l.length - ival (f 10)).toNat) ?_ ?_
  · exact ⟨0, 0, by omega, by omega, by omega, by simp, by simp -implicitDefEqProofs (disch := omega) only [go_sem], by simp -implicitDefEqProofs (disch := omega) only [go_sem], by simp -implicitDefEqProofs (disch := omega) only [go_sem], by simp -implicitDefEqProofs (disch := omega) only [go_sem], by simp -implicitDefEqProofs (disch := omega) only [go_sem]; rfl, rfl⟩
  rintro f h ⟨i, at_, hi, h0, h1, hck, e1, e5, e8, e9, e10, rfl⟩ Q' hQ'
  by_cases hil : i < l.length
  · have g1 : (i : Int) < (l.length : Int) := by omega
    obtain ⟨b, o, rfl, hb, hc, _⟩ := tk_at hr i hil
    rw [Tok.drop_cons hil] at hck
    generalize l.getD i Tok.tk0 = t at hc hck
    obtain ⟨ta, tn, tk⟩ := t
    simp only [Tok.check] at hck
    simp -implicitDefEqProofs (disch := omega) only [go_sem, e8, e9, e10, g1, hc]
    refine RNew_intro fun g hg => ?_
    simp only [below_cons, below_nil, under_anchor, and_true] at hg
    simp -implicitDefEqProofs (disch := omega) only [go_sem, e5]
    by_cases h2 : ta = at_
    · subst h2
      simp -implicitDefEqProofs (disch := omega) only [go_sem, decide_true]
      refine RCall_eq (tok_right ta tn tk) ?_
      by_cases h3 : Tok.Right (ta, tn, tk)
      · have hb3 := Tok.right_bounds h3
        simp only [] at hb3
        rw [if_pos ⟨rfl, h3⟩] at hck
        simp -implicitDefEqProofs (disch := omega) only [go_sem, h3, decide_true, e5, e10]
        refine hQ' _ _ _ (fun _ hs => hs.2.2.2) ⟨i + 1, ta + tn, by omega, by omega, by omega, hck, ?_, ?_, ?_, ?_, ?_, rfl⟩ ?_
        · simp -implicitDefEqProofs (disch := omega) only [go_sem, e1]
        · simp -implicitDefEqProofs (disch := omega) only [go_sem]
        · simp -implicitDefEqProofs (disch := omega) only [go_sem, e8]
        · simp -implicitDefEqProofs (disch := omega) only [go_sem, e9]
        · simp -implicitDefEqProofs (disch := omega) only [go_sem]; rfl
        · simp -implicitDefEqProofs (disch := omega) only [go_sem, e10]; omega
      · rw [if_neg fun h => h3 h.2] at hck
        simp -implicitDefEqProofs (disch := omega) only [go_sem, h3, decide_false]
        exact hQ _ _ fun w' hs => ⟨by rw [← hck], hs.anchor (by simp)⟩
    · rw [if_neg fun h => h2 h.1] at hck
      simp -implicitDefEqProofs (disch := omega) only [go_sem, h2, decide_false]
      exact hQ _ _ fun w' hs => ⟨by rw [← hck], hs.anchor (by simp)⟩
  · obtain rfl : i = l.length := by omega
    rw [List.drop_length] at hck
    simp only [Tok.check] at hck
    simp -implicitDefEqProofs (disch := omega) only [go_sem, e9, e10, e5, e1, Int.lt_irrefl, decide_false]
    by_cases h2 : at_ = size
    · rw [if_pos h2] at hck
      simp -implicitDefEqProofs (disch := omega) only [go_sem, h2, decide_true]
      exact hQ _ _ fun w' hs => ⟨by rw [← hck], hs.anchor (by simp)⟩
    · rw [if_neg h2] at hck
      simp -implicitDefEqProofs (disch := omega) only [go_sem, h2, decide_false]
      exact hQ _ _ fun w' hs => ⟨by rw [← hck], hs.anchor (by simp)⟩

set_option maxHeartbeats 400000 in
theorem rtok_check (l : List Tok.Tk) (a : Option Addr) (c : Nat) (size : Int) (hl : l.length ≤ 2147483648) (w : World) (hr : Rd w a l.length 3 (ofL Tok.tkC Tok.tk0 l)) :
    Does Try.prog 40 #[.slice a l.length c, .int .i64 size] w fun v w' => v = .int .i64 (Tok.check l 0 size) ∧ Ext [] w w' := by
  refine does (args := [.slice a l.length c, .int .i64 size]) Try.func40 rfl (by kernel_rfl) (by kernel_rfl) rfl ent_40 (Sat.start w []) ?_; intro QV hQ
  simp -implicitDefEqProofs (disch := omega) only [go_sem]
  refine RLoop_intro (fun f h => ∃ (i : Nat) (at_ : Int), i ≤ l.length ∧ 0 ≤ at_ ∧ at_ ≤ 4096 * i ∧ Tok.check (l.drop i) at_ size = Tok.check l 0 size ∧ f 0 = .slice a l.length c ∧ f 1 = .int .i64 size ∧ f 5 = .int .i64 at_ ∧ f 6 = .int .i64 (i : Int) ∧ h = [.anchor w []]) (fun f _ => (l.length - ival (f 6)).toNat) ?_ ?_
  · exact ⟨0, 0, by omega, by omega, by omega, by simp, by simp -implicitDefEqProofs (disch := omega) only [go_sem], by simp -implicitDefEqProofs (disch := omega) only [go_sem], by simp -implicitDefEqProofs (disch := omega) only [go_sem], by simp -implicitDefEqProofs (disch := omega) only [go_sem]; rfl, rfl⟩
  rintro f h ⟨i, at_, hi, h0, h1, hck, e0, e1, e5, e6, rfl⟩ Q' hQ'
  by_cases hil : i < l.length
  · have g1 : (i : Int) < (l.length : Int) := by omega
    obtain ⟨b, o, rfl, hb, hc, _⟩ := tk_at hr i hil
    rw [Tok.drop_cons hil] at hck
    generalize l.getD i Tok.tk0 = t at hc hck
    obtain ⟨ta, tn, tk⟩ := t
    simp only [Tok.check] at hck
    have hR : Tok.Right (ta, tn, tk) ↔ (if tk = -1 then tn = 1 else 0 ≤ tk ∧ tk < 32 ∧ 1 ≤ tn ∧ tn ≤ 4096) := Iff.rfl
    simp -implicitDefEqProofs (disch := omega) only [go_sem, e0, e6, g1, hc]
    refine RNew_intro fun g hg => ?_
    simp only [below_cons, below_nil, under_anchor, and_true] at hg
    simp -implicitDefEqProofs (disch := omega) only [go_sem, e5]
    by_cases h2 : ta = at_
    rotate_left
    · rw [if_neg fun h => h2 h.1] at hck
      simp -implicitDefEqProofs (disch := omega) only [go_sem, h2, decide_false]
      exact hQ _ _ fun w' hs => ⟨by rw [← hck], hs.anchor (by simp)⟩
    by_cases h3 : tn < 1
    · rw [if_neg fun h => by have := Tok.right_bounds h.2; simp only [] at this; omega] at hck
      simp -implicitDefEqProofs (disch := omega) only [go_sem, h2, h3, decide_true]
      exact hQ _ _ fun w' hs => ⟨by rw [← hck], hs.anchor (by simp)⟩
    by_cases h4 : 4096 < tn
    · rw [if_neg fun h => by have := Tok.right_bounds h.2; simp only [] at this; omega] at hck
      simp -implicitDefEqProofs (disch := omega) only [go_sem, h2, h3, h4, decide_true, decide_false]
      exact hQ _ _ fun w' hs => ⟨by rw [← hck], hs.anchor (by simp)⟩
    by_cases h5 : tk < -1
    · rw [if_neg fun h => by have := hR.1 h.2; split at this <;> omega] at hck
      simp -implicitDefEqProofs (disch := omega) only [go_sem, h2, h3, h4, h5, decide_true, decide_false]
      exact hQ _ _ fun w' hs => ⟨by rw [← hck], hs.anchor (by simp)⟩
    by_cases h6 : 31 < tk
    · rw [if_neg fun h => by have := hR.1 h.2; split at this <;> omega] at hck
      simp -implicitDefEqProofs (disch := omega) only [go_sem, h2, h3, h4, h5, h6, decide_true, decide_false]
      exact hQ _ _ fun w' hs => ⟨by rw [← hck], hs.anchor (by simp)⟩
    by_cases h7 : tk = -1 ∧ ¬ tn = 1
    · obtain ⟨h7, h8⟩ := h7
      rw [if_neg fun h => by have := hR.1 h.2; rw [if_pos h7] at this; omega] at hck
      simp -implicitDefEqProofs (disch := omega) only [go_sem, h2, h3, h4, h5, h6, h7, h8, decide_true, decide_false]
      exact hQ _ _ fun w' hs => ⟨by rw [← hck], hs.anchor (by simp)⟩
    have h8 : Tok.Right (ta, tn, tk) := by rw [hR]; split <;> omega
    rw [if_pos ⟨h2, h8⟩] at hck
    have go : ∀ K : Prop, K → K := fun _ h => h
    have h9 : (decide (tk = -1) = true ∧ decide (tn = 1) = true) ∨ decide (tk = -1) = false := by
      by_cases h : tk = -1
      · exact .inl ⟨decide_eq_true h, decide_eq_true (by omega)⟩
      · exact .inr (decide_eq_false h)
    subst h2
    rcases h9 with ⟨h9, h10⟩ | h9
    all_goals
      first
      | simp -implicitDefEqProofs (disch := omega) only [go_sem, h3, h4, h5, h6, h9, h10, decide_true, decide_false, e5, e6]
      | simp -implicitDefEqProofs (disch := omega) only [go_sem, h3, h4, h5, h6, h9, decide_true, decide_false, e5, e6]
      refine hQ' _ _ _ (fun _ hs => hs.2.2.2) ⟨i + 1, ta + tn, by omega, by omega, by omega, hck, ?_, ?_, ?_, ?_, rfl⟩ ?_
      · simp -implicitDefEqProofs (disch := omega) only [go_sem, e0]
      · simp -implicitDefEqProofs (disch := omega) only [go_sem, e1]
      · simp -implicitDefEqProofs (disch := omega) only [go_sem]
      · simp -implicitDefEqProofs (disch := omega) only [go_sem]; rfl
      · simp -implicitDefEqProofs (disch := omega) only [go_sem, e6]; omega
  · obtain rfl : i = l.length := by omega
    rw [List.drop_length] at hck
    simp only [Tok.check] at hck
    simp -implicitDefEqProofs (disch := omega) only [go_sem, e0, e6, e5, e1, Int.lt_irrefl, decide_false]
    by_cases h2 : at_ = size
    · rw [if_pos h2] at hck
      simp -implicitDefEqProofs (disch := omega) only [go_sem, h2, decide_true]
      exact hQ _ _ fun w' hs => ⟨by rw [← hck], hs.anchor (by simp)⟩
    · rw [if_neg h2] at hck
      simp -implicitDefEqProofs (disch := omega) only [go_sem, h2, decide_false]
      exact hQ _ _ fun w' hs => ⟨by rw [← hck], hs.anchor (by simp)⟩
end Go.Proofs.Ytjcchmlideknpaa
