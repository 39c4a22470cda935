/- tokens and its reference: the walks, third part: lists of tokens. -/
import Derived.Test.YtjcchmlideknpaaTokBY5
namespace Go.Proofs.Ytjcchmlideknpaa
set_option linter.unusedSimpArgs false
set_option linter.unusedVariables false
open H

/-- A new row of tokens. -/
def NewToks (v : Value) (rs : List Res) (r : List Tok.Tk) : Prop := ∃ a c, v = .slice a r.length c ∧ r.length ≤ c ∧ rs = [Own 56 3 (.slice a r.length c) r.length (r.flatMap Tok.tkC)]
theorem tkC_one (r : List Tok.Tk) (t : Tok.Tk) : (r ++ [t]).flatMap Tok.tkC = r.flatMap Tok.tkC ++ [.int .i64 t.1, .int .i64 t.2.1, .int .i64 t.2.2] := by simp [Tok.tkC]
theorem tkC_cells (t : Tok.Tk) : ∀ u ∈ [Value.int .i64 t.1, .int .i64 t.2.1, .int .i64 t.2.2], u.oneCell' = true := by
  intro u hu
  simp only [List.mem_cons, List.not_mem_nil, or_false] at hu
  rcases hu with rfl | rfl | rfl <;> rfl
/-- A row of tokens of one's own reads so. -/
theorem toks_rd {w : World} {a : Option Addr} {c : Nat} {r : List Tok.Tk} (h : w.ownsRow 0 56 3 (.slice a r.length c) r.length (r.flatMap Tok.tkC)) : Rd w a r.length 3 (ofL Tok.tkC Tok.tk0 r) := by
  rw [← flat_ofL Tok.tkC Tok.tk0 r] at h
  exact rd_own h fun i hi => rfl

set_option maxHeartbeats 1000000 in
theorem rtok_ended (l : List Tok.Tk) (a : Option Addr) (c : Nat) (at_ : Int) (hsm : Small l) (hl : l.length ≤ 2147483648) (w : World) (hr : Rd w a l.length 3 (ofL Tok.tkC Tok.tk0 l)) :
    Does Try.prog 56 #[.slice a l.length c, .int .i64 at_] w fun v w' => v = .int .i64 (Tok.ended l at_ : Int) ∧ Ext [] w w' := by
  refine does (args := [.slice a l.length c, .int .i64 at_]) Try.func56 rfl (by kernel_rfl) (by kernel_rfl) rfl ent_56 (Sat.start w []) ?_; intro QV hQ
  simp -implicitDefEqProofs (disch := omega) only [go_sem]
  refine RLoop_intro (fun f h => ∃ (i : Nat), i ≤ l.length ∧ f 0 = .slice a l.length c ∧ f 1 = .int .i64 at_ ∧ f 5 = .int .i64 (Tok.ended (l.take i) at_ : Int) ∧ f 6 = .int .i64 (i : Int) ∧ h = [.anchor w []]) (fun f _ => (l.length - ival (f 6)).toNat) ?_ ?_
  · exact ⟨0, by omega, by simp -implicitDefEqProofs (disch := omega) only [go_sem], by simp -implicitDefEqProofs (disch := omega) only [go_sem], by simp -implicitDefEqProofs (disch := omega) only [go_sem]; rfl, by simp -implicitDefEqProofs (disch := omega) only [go_sem]; rfl, rfl⟩
  rintro f h ⟨i, hi, e0, e1, e5, e6, rfl⟩ Q' hQ'
  by_cases hil : i < l.length
  · have g1 : (i : Int) < (l.length : Int) := by omega
    obtain ⟨b, o, rfl, hb, _, hc0, hc1, _⟩ := tk_at hr i hil
    have hst := hsm (l.getD i Tok.tk0) (by
      rw [List.getD_eq_getElem?_getD, List.getElem?_eq_getElem hil]; exact List.getElem_mem _)
    have ht := Tok.ended_take hil at_
    have hle : Tok.ended (l.take i) at_ ≤ i := by
      have : Tok.ended (l.take i) at_ ≤ (l.take i).length := List.countP_le_length
      rw [List.length_take] at this; omega
    generalize Tok.ended (l.take i) at_ = n at *
    generalize l.getD i Tok.tk0 = t at *
    simp -implicitDefEqProofs (disch := omega) only [go_sem, e0, e6, g1]
    refine RDraw_to 13 (by kernel_rfl) (by kernel_rfl) (by kernel_rfl) ?_
    repeat (first | refine Tr_step (fun Q hq => by (simp -implicitDefEqProofs (disch := omega) only [go_sem, e0, e1, e6, hc0, hc1]; exact hq)) ?_ | refine Tr_guard (by (simp -implicitDefEqProofs only [go_sem, e0, e1, e6, hc0, hc1]; first | done | fail)) (fun Q hq => by (simp -implicitDefEqProofs (disch := omega) only [go_sem, e0, e1, e6, hc0, hc1]; exact hq)) ?_ | refine Tr_skip (.inl (by (simp -implicitDefEqProofs only [go_sem, e0, e1, e6, hc0, hc1]; first | done | fail))) ?_ | refine Tr_skip (.inr (by (simp -implicitDefEqProofs only [go_sem, e0, e1, e6, hc0, hc1]; first | done | fail))) ?_)
    refine To_nil ?_
    by_cases h1 : t.1 + t.2.1 ≤ at_
    · rw [if_pos h1] at ht
      simp -implicitDefEqProofs (disch := omega) only [go_sem, h1, decide_true, e5, e6]
      refine hQ' _ _ _ (fun _ hs => hs) ⟨i + 1, by omega, ?_, ?_, ?_, ?_, rfl⟩ ?_
      · simp -implicitDefEqProofs (disch := omega) only [go_sem, e0]
      · simp -implicitDefEqProofs (disch := omega) only [go_sem, e1]
      · simp -implicitDefEqProofs (disch := omega) only [go_sem]; rw [ht]; rfl
      · simp -implicitDefEqProofs (disch := omega) only [go_sem]; rfl
      · simp -implicitDefEqProofs (disch := omega) only [go_sem, e6]; omega
    · rw [if_neg h1] at ht
      simp -implicitDefEqProofs (disch := omega) only [go_sem, h1, decide_false, e5, e6]
      refine hQ' _ _ _ (fun _ hs => hs) ⟨i + 1, by omega, ?_, ?_, ?_, ?_, rfl⟩ ?_
      · simp -implicitDefEqProofs (disch := omega) only [go_sem, e0]
      · simp -implicitDefEqProofs (disch := omega) only [go_sem, e1]
      · simp -implicitDefEqProofs (disch := omega) only [go_sem, e5]; rw [ht]
      · simp -implicitDefEqProofs (disch := omega) only [go_sem]; rfl
      · simp -implicitDefEqProofs (disch := omega) only [go_sem, e6]; omega
  · obtain rfl : i = l.length := by omega
    rw [List.take_length] at *
    simp -implicitDefEqProofs (disch := omega) only [go_sem, e0, e6, e5, Int.lt_irrefl, decide_false]
    exact hQ _ _ fun w' hs => ⟨rfl, hs.anchor (by simp)⟩

set_option maxHeartbeats 1000000 in
theorem rtok_size (l : List Tok.Tk) (a : Option Addr) (c : Nat) (hsm : Small l) (hl : l.length ≤ 2147483648) (w : World) (hr : Rd w a l.length 3 (ofL Tok.tkC Tok.tk0 l)) :
    Does Try.prog 33 #[.slice a l.length c] w fun v w' => v = .int .i64 (Tok.size l) ∧ Ext [] w w' := by
  refine does (args := [.slice a l.length c]) Try.func33 rfl (by kernel_rfl) (by kernel_rfl) rfl ent_33 (Sat.start w []) ?_; intro QV hQ
  by_cases h0 : l = []
  · subst h0
    simp -implicitDefEqProofs (disch := omega) only [go_sem]
    exact hQ _ _ fun w' hs => ⟨rfl, hs.anchor (by simp)⟩
  have hpos : 0 < l.length := List.length_pos_iff.2 h0
  have h1 : ¬ (l.length : Int) = 0 := by omega
  have hv : Tok.size l = (l.getD (l.length - 1) Tok.tk0).1 + (l.getD (l.length - 1) Tok.tk0).2.1 := by unfold Tok.size; rw [if_neg h0]
  obtain ⟨m, hm⟩ : ∃ m, l.length = m + 1 := ⟨l.length - 1, by omega⟩
  obtain ⟨b, o, rfl, hb, _, hc0, hc1, _⟩ := tk_at hr m (by omega)
  have hst := hsm (l.getD m Tok.tk0) (by
    rw [List.getD_eq_getElem?_getD, List.getElem?_eq_getElem (show m < l.length by omega)]; exact List.getElem_mem _)
  rw [show l.length - 1 = m by omega] at hv
  rw [hv] at hQ
  generalize l.getD m Tok.tk0 = t at *
  have hsub : (l.length : Int) - 1 = (m : Int) := by omega
  simp -implicitDefEqProofs (disch := omega) only [go_sem, h1, decide_false]
  refine RDraw_to 15 (by kernel_rfl) (by kernel_rfl) (by kernel_rfl) ?_
  repeat (first | refine Tr_step (fun Q hq => by (simp -implicitDefEqProofs (disch := omega) only [go_sem, hsub, hc0, hc1]; exact hq)) ?_ | refine Tr_guard (by (simp -implicitDefEqProofs only [go_sem, hsub, hc0, hc1]; first | done | fail)) (fun Q hq => by (simp -implicitDefEqProofs (disch := omega) only [go_sem, hsub, hc0, hc1]; exact hq)) ?_ | refine Tr_skip (.inl (by (simp -implicitDefEqProofs only [go_sem, hsub, hc0, hc1]; first | done | fail))) ?_ | refine Tr_skip (.inr (by (simp -implicitDefEqProofs only [go_sem, hsub, hc0, hc1]; first | done | fail))) ?_)
  refine To_nil ?_
  simp -implicitDefEqProofs (disch := omega) only [go_sem]
  exact hQ _ _ fun w' hs => ⟨rfl, hs.anchor (by simp)⟩

theorem tk_ne {t u : Tok.Tk} (h : ¬ t = u) : (decide (t.1 = u.1) && (decide (t.2.1 = u.2.1) && decide (t.2.2 = u.2.2))) = false := by
  rw [← Bool.decide_and, ← Bool.decide_and]
  refine decide_eq_false fun hc => h ?_
  obtain ⟨a, b, c⟩ := t
  obtain ⟨a', b', c'⟩ := u
  simp only [] at hc
  rw [hc.1, hc.2.1, hc.2.2]

end Go.Proofs.Ytjcchmlideknpaa
