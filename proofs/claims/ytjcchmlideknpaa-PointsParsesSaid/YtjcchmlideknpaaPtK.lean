/- points: the walks: whether two lists are alike; whether points are light. -/
import Derived.Test.YtjcchmlideknpaaPtJ
namespace Go.Proofs.Ytjcchmlideknpaa
set_option linter.unusedSimpArgs false
set_option linter.unusedVariables false
open H
theorem pt_ext {t u : Pt.P} (h1 : t.bit = u.bit) (h2 : t.out = u.out) (h3 : t.tok = u.tok) (h4 : t.frm = u.frm) (h5 : t.win = u.win) : t = u := by
  cases t; cases u; simp only [] at h1 h2 h3 h4 h5; rw [h1, h2, h3, h4, h5]
theorem pt_ne {t u : Pt.P} (h : ¬ t = u) : (decide (t.bit = u.bit) && (decide (t.out = u.out) && (decide (t.tok = u.tok) && (decide (t.frm = u.frm) && decide (t.win = u.win))))) = false := by
  rw [← Bool.decide_and, ← Bool.decide_and, ← Bool.decide_and, ← Bool.decide_and]
  exact decide_eq_false fun hc => h (pt_ext hc.1 hc.2.1 hc.2.2.1 hc.2.2.2.1 hc.2.2.2.2)
theorem pts_take {l : List Pt.P} {i : Nat} (h : i < l.length) : l.take (i + 1) = l.take i ++ [l.getD i Pt.p0] := by
  rw [List.take_add_one, List.getD_eq_getElem?_getD, List.getElem?_eq_getElem h]; rfl
set_option maxRecDepth 20000 in
set_option maxHeartbeats 2000000 in
theorem pts_same (n m : List Pt.P) (a1 a2 : Option Addr) (c1 c2 : Nat) (hl1 : n.length ≤ 2147483648) (hl2 : m.length ≤ 2147483648) (w : World) (hr1 : Rd w a1 n.length 5 (ofL Pt.ptC Pt.p0 n)) (hr2 : Rd w a2 m.length 5 (ofL Pt.ptC Pt.p0 m)) :
    Does Try.prog 20 #[.slice a1 n.length c1, .slice a2 m.length c2] w fun v w' => v = .bool (decide (n = m)) ∧ Ext [] w w' := by
  refine does (args := [.slice a1 n.length c1, .slice a2 m.length c2]) Try.func20 rfl (by kernel_rfl) (by kernel_rfl) rfl ent_20 (Sat.start w []) ?_; intro QV hQ
  by_cases h0 : n.length = m.length
  rotate_left
  · have h0' : ¬ (n.length : Int) = (m.length : Int) := by omega
    simp -implicitDefEqProofs (disch := omega) only [go_sem, h0', decide_false]
    exact hQ _ _ fun w' hs => ⟨by rw [decide_eq_false (fun h => h0 (by rw [h]))], hs.anchor (by simp)⟩
  have h0' : (n.length : Int) = (m.length : Int) := by omega
  simp -implicitDefEqProofs (disch := omega) only [go_sem, h0', decide_true]
  refine RLoop_intro (fun f h => ∃ (i : Nat), i ≤ m.length ∧ n.take i = m.take i ∧ f 0 = .slice a1 n.length c1 ∧ f 1 = .slice a2 m.length c2 ∧ f 5 = .int .i64 (i : Int) ∧ h = [.anchor w []]) (fun f _ => (m.length - ival (f 5)).toNat) ?_ ?_
  · exact ⟨0, by omega, rfl, by (first | (simp -implicitDefEqProofs (disch := omega) only [go_sem]; done) | (simp -implicitDefEqProofs (disch := omega) only [go_sem]; rfl)), by (first | (simp -implicitDefEqProofs (disch := omega) only [go_sem]; done) | (simp -implicitDefEqProofs (disch := omega) only [go_sem]; rfl)), by (first | (simp -implicitDefEqProofs (disch := omega) only [go_sem]; done) | (simp -implicitDefEqProofs (disch := omega) only [go_sem]; rfl)), rfl⟩
  rintro f h ⟨i, hi, hf, e0, e1, e5, rfl⟩ Q' hQ'
  by_cases hil : i < m.length
  · have hil' : i < n.length := by omega
    have g1 : (i : Int) < (m.length : Int) := by omega
    have g2 : (i : Int) < (n.length : Int) := by omega
    obtain ⟨b, o, rfl, hb, hc, _⟩ := pt_at hr1 i hil'
    obtain ⟨b2, o2, rfl, hb2, hc2, _⟩ := pt_at hr2 i hil
    have ht := pts_take hil'
    have ht2 := pts_take hil
    have hget : n = m → n.getD i Pt.p0 = m.getD i Pt.p0 := fun h => by rw [h]
    generalize n.getD i Pt.p0 = t at *
    generalize m.getD i Pt.p0 = u at *
    simp -implicitDefEqProofs (disch := omega) only [go_sem, e0, e1, e5, g1, g2, decide_true]
    refine RDraw_seg (by kernel_rfl) (by kernel_rfl) 9 rfl ?_
    refine RS_det (by kernel_rfl) ?_
    by_cases h1 : t = u
    · subst h1
      repeat (first | refine ToO_step (fun Q hq => by (simp -implicitDefEqProofs (disch := omega) only [go_sem, e0, e1, e5, hc, hc2, decide_true, Bool.and_self]; exact hq)) ?_ | refine ToO_guard (by (simp -implicitDefEqProofs only [go_sem, e0, e1, e5, hc, hc2, decide_true, Bool.and_self]; first | done | fail)) (fun Q hq => by (simp -implicitDefEqProofs (disch := omega) only [go_sem, e0, e1, e5, hc, hc2, decide_true, Bool.and_self]; exact hq)) ?_ | refine ToO_skip (.inl (by (simp -implicitDefEqProofs only [go_sem, e0, e1, e5, hc, hc2, decide_true, Bool.and_self]; first | done | fail))) ?_ | refine ToO_skip (.inr (by (simp -implicitDefEqProofs only [go_sem, e0, e1, e5, hc, hc2, decide_true, Bool.and_self]; first | done | fail))) ?_)
      refine ToO_nil ?_
      simp -implicitDefEqProofs (disch := omega) only [go_sem, e0, e1, e5]
      refine hQ' _ _ _ (fun _ hs => hs) ⟨i + 1, by omega, by rw [ht, ht2, hf], ?_, ?_, ?_, rfl⟩ ?_
      · (first | (simp -implicitDefEqProofs (disch := omega) only [go_sem, e0, e1, e5]; done) | (simp -implicitDefEqProofs (disch := omega) only [go_sem, e0, e1, e5]; rfl))
      · (first | (simp -implicitDefEqProofs (disch := omega) only [go_sem, e0, e1, e5]; done) | (simp -implicitDefEqProofs (disch := omega) only [go_sem, e0, e1, e5]; rfl))
      · (first | (simp -implicitDefEqProofs (disch := omega) only [go_sem, e0, e1, e5]; done) | (simp -implicitDefEqProofs (disch := omega) only [go_sem, e0, e1, e5]; rfl))
      · simp -implicitDefEqProofs (disch := omega) only [go_sem, e0, e1, e5]; omega
    · repeat (first | refine ToO_step (fun Q hq => by (simp -implicitDefEqProofs (disch := omega) only [go_sem, e0, e1, e5, hc, hc2, pt_ne h1]; exact hq)) ?_ | refine ToO_guard (by (simp -implicitDefEqProofs only [go_sem, e0, e1, e5, hc, hc2, pt_ne h1]; first | done | fail)) (fun Q hq => by (simp -implicitDefEqProofs (disch := omega) only [go_sem, e0, e1, e5, hc, hc2, pt_ne h1]; exact hq)) ?_ | refine ToO_skip (.inl (by (simp -implicitDefEqProofs only [go_sem, e0, e1, e5, hc, hc2, pt_ne h1]; first | done | fail))) ?_ | refine ToO_skip (.inr (by (simp -implicitDefEqProofs only [go_sem, e0, e1, e5, hc, hc2, pt_ne h1]; first | done | fail))) ?_)
      refine ToO_nil ?_
      simp -implicitDefEqProofs (disch := omega) only [go_sem, e0, e1, e5]
      exact hQ _ _ fun w' hs => ⟨by rw [decide_eq_false (fun h => h1 (hget h))], hs.anchor (by simp)⟩
  have g1 : ¬ (i : Int) < (m.length : Int) := by omega
  have g2 : ¬ (i : Int) < (n.length : Int) := by omega
  rw [List.take_of_length_le (by omega), List.take_of_length_le (by omega)] at hf
  simp -implicitDefEqProofs (disch := omega) only [go_sem, e0, e1, e5, g1, g2, decide_false]
  exact hQ _ _ fun w' hs => ⟨by rw [decide_eq_true hf], hs.anchor (by simp)⟩
end Go.Proofs.Ytjcchmlideknpaa
