/- node's reference: the walk: whether two nodes are alike. -/
import Derived.Test.YtlmbebnpnnkhmaaNodeI
namespace Go.Proofs.Ytlmbebnpnnkhmaa
set_option linter.unusedSimpArgs false
set_option linter.unusedVariables false
open H
theorem tk_ne {t u : Tok.Tk} (h : ¬ t = u) : (decide (t.1 = u.1) && (decide (t.2.1 = u.2.1) && decide (t.2.2 = u.2.2))) = false := by
  rw [← Bool.decide_and, ← Bool.decide_and]
  refine decide_eq_false fun hc => h ?_
  obtain ⟨a, b, c⟩ := t
  obtain ⟨a', b', c'⟩ := u
  simp only [] at hc
  rw [hc.1, hc.2.1, hc.2.2]
theorem n_ext {n m : Nd.N} (h1 : n.leaf = m.leaf) (h2 : n.toks = m.toks) (h3 : n.kids = m.kids) : n = m := by
  cases n; cases m; simp only [] at h1 h2 h3; rw [h1, h2, h3]
set_option maxRecDepth 20000 in
set_option maxHeartbeats 4000000 in
theorem rnode_same (n m : Nd.N) (a1 a2 a3 a4 : Option Addr) (c1 c2 c3 c4 : Nat) (hl1 : n.toks.length ≤ 2147483648) (hl2 : n.kids.length ≤ 2147483648) (w : World) (hm : Nd.Mem w n a1 a2) (hm2 : Nd.Mem w m a3 a4) : Does Try.prog 22 #[Nd.nV n a1 c1 a2 c2, Nd.nV m a3 c3 a4 c4] w fun v w' => v = .bool (decide (n = m)) ∧ Ext [] w w' := by
  unfold Nd.nV
  refine does (args := [.agg #[.bool n.leaf, .slice a1 n.toks.length c1, .slice a2 n.kids.length c2], .agg #[.bool m.leaf, .slice a3 m.toks.length c3, .slice a4 m.kids.length c4]]) Try.func22 rfl (by kernel_rfl) (by kernel_rfl) rfl ent_22 (Sat.start w []) ?_; intro QV hQ
  simp -implicitDefEqProofs (disch := omega) only [go_sem]
  refine RNew_intro fun g hg => ?_
  simp only [below_cons, below_nil, under_anchor, and_true] at hg
  simp -implicitDefEqProofs (disch := omega) only [go_sem]
  refine RNew_intro fun g' hg' => ?_
  simp only [below_cons, below_nil, under_anchor, under_cells, and_true] at hg'
  have ng : g ≠ g' := Nat.ne_of_lt hg'.1
  by_cases hlf : n.leaf = m.leaf
  rotate_left
  · have hne : (n.leaf == m.leaf) = false := by simpa using hlf
    simp -implicitDefEqProofs (disch := omega) only [go_sem, hne]
    exact hQ _ _ fun w' hs => ⟨by rw [decide_eq_false (fun h => hlf (by rw [h]))], hs.anchor (by simp)⟩
  by_cases h0 : n.toks.length = m.toks.length
  rotate_left
  · have h0' : ¬ (n.toks.length : Int) = (m.toks.length : Int) := by omega
    rw [hlf]
    simp -implicitDefEqProofs (disch := omega) only [go_sem, beq_self_eq_true, h0', decide_false]
    exact hQ _ _ fun w' hs => ⟨by rw [decide_eq_false (fun h => h0 (by rw [h]))], hs.anchor (by simp)⟩
  by_cases h00 : n.kids.length = m.kids.length
  rotate_left
  · have h0' : ¬ (n.kids.length : Int) = (m.kids.length : Int) := by omega
    rw [hlf, h0]
    simp -implicitDefEqProofs (disch := omega) only [go_sem, beq_self_eq_true, h0', decide_true, decide_false]
    exact hQ _ _ fun w' hs => ⟨by rw [decide_eq_false (fun h => h00 (by rw [h]))], hs.anchor (by simp)⟩
  rw [hlf, h0, h00]
  simp -implicitDefEqProofs (disch := omega) only [go_sem, beq_self_eq_true, decide_true]
  generalize hH : [Res.cells g' 25 #[.bool m.leaf, .slice a3 m.toks.length c3, .slice a4 m.kids.length c4], Res.cells g 25 #[.bool m.leaf, .slice a1 m.toks.length c1, .slice a2 m.kids.length c2], .anchor w []] = H at *
  refine RLoop_intro (fun f h => ∃ (i : Nat), i ≤ m.toks.length ∧ n.toks.take i = m.toks.take i ∧ f 2 = .pointer (some ⟨g, 0, none⟩) ∧ f 3 = .pointer (some ⟨g', 0, none⟩) ∧ f 5 = .int .i64 (i : Int) ∧ h = H) (fun f _ => (m.toks.length - ival (f 5)).toNat) ?_ ?_
  · exact ⟨0, by omega, rfl, by (first | (simp -implicitDefEqProofs (disch := omega) only [go_sem]; done) | (simp -implicitDefEqProofs (disch := omega) only [go_sem]; rfl)), by (first | (simp -implicitDefEqProofs (disch := omega) only [go_sem]; done) | (simp -implicitDefEqProofs (disch := omega) only [go_sem]; rfl)), by (first | (simp -implicitDefEqProofs (disch := omega) only [go_sem]; done) | (simp -implicitDefEqProofs (disch := omega) only [go_sem]; rfl)), rfl⟩
  rintro f h ⟨i, hi, hf, e2, e3, e5, rfl⟩ Q' hQ'
  subst hH
  by_cases hil : i < m.toks.length
  · have g1 : (i : Int) < (m.toks.length : Int) := by omega
    obtain ⟨b, o, rfl, hb, hc, _⟩ := three_at hm.toks i (by omega)
    obtain ⟨b2, o2, rfl, hb2, hc2, _⟩ := three_at hm2.toks i hil
    have ht := Tok.take_succ (l := n.toks) (i := i) (by omega)
    have ht2 := Tok.take_succ (l := m.toks) (i := i) hil
    have hget : n = m → n.toks.getD i Tok.tk0 = m.toks.getD i Tok.tk0 := fun h => by rw [h]
    generalize n.toks.getD i Tok.tk0 = t at *
    generalize m.toks.getD i Tok.tk0 = u at *
    simp -implicitDefEqProofs (disch := omega) only [go_sem, e2, e3, e5, g1, decide_true]
    refine RDraw_seg (by kernel_rfl) (by kernel_rfl) 11 rfl ?_
    refine RS_det (by kernel_rfl) ?_
    by_cases h1 : t = u
    · subst h1
      repeat (first | refine ToO_step (fun Q hq => by (simp -implicitDefEqProofs (disch := omega) only [go_sem, e2, e3, e5, hc, hc2, decide_true, Bool.and_self]; exact hq)) ?_ | refine ToO_guard (by (simp -implicitDefEqProofs only [go_sem, e2, e3, e5, hc, hc2, decide_true, Bool.and_self]; first | done | fail)) (fun Q hq => by (simp -implicitDefEqProofs (disch := omega) only [go_sem, e2, e3, e5, hc, hc2, decide_true, Bool.and_self]; exact hq)) ?_ | refine ToO_skip (.inl (by (simp -implicitDefEqProofs only [go_sem, e2, e3, e5, hc, hc2, decide_true, Bool.and_self]; first | done | fail))) ?_ | refine ToO_skip (.inr (by (simp -implicitDefEqProofs only [go_sem, e2, e3, e5, hc, hc2, decide_true, Bool.and_self]; first | done | fail))) ?_)
      refine ToO_nil ?_
      simp -implicitDefEqProofs (disch := omega) only [go_sem, e2, e3, e5]
      refine hQ' _ _ _ (fun _ hs => hs) ⟨i + 1, by omega, by rw [ht, ht2, hf], ?_, ?_, ?_, rfl⟩ ?_
      · (first | (simp -implicitDefEqProofs (disch := omega) only [go_sem, e2, e3, e5]; done) | (simp -implicitDefEqProofs (disch := omega) only [go_sem, e2, e3, e5]; rfl))
      · (first | (simp -implicitDefEqProofs (disch := omega) only [go_sem, e2, e3, e5]; done) | (simp -implicitDefEqProofs (disch := omega) only [go_sem, e2, e3, e5]; rfl))
      · (first | (simp -implicitDefEqProofs (disch := omega) only [go_sem, e2, e3, e5]; done) | (simp -implicitDefEqProofs (disch := omega) only [go_sem, e2, e3, e5]; rfl))
      · simp -implicitDefEqProofs (disch := omega) only [go_sem, e2, e3, e5]; omega
    · repeat (first | refine ToO_step (fun Q hq => by (simp -implicitDefEqProofs (disch := omega) only [go_sem, e2, e3, e5, hc, hc2, tk_ne h1]; exact hq)) ?_ | refine ToO_guard (by (simp -implicitDefEqProofs only [go_sem, e2, e3, e5, hc, hc2, tk_ne h1]; first | done | fail)) (fun Q hq => by (simp -implicitDefEqProofs (disch := omega) only [go_sem, e2, e3, e5, hc, hc2, tk_ne h1]; exact hq)) ?_ | refine ToO_skip (.inl (by (simp -implicitDefEqProofs only [go_sem, e2, e3, e5, hc, hc2, tk_ne h1]; first | done | fail))) ?_ | refine ToO_skip (.inr (by (simp -implicitDefEqProofs only [go_sem, e2, e3, e5, hc, hc2, tk_ne h1]; first | done | fail))) ?_)
      refine ToO_nil ?_
      simp -implicitDefEqProofs (disch := omega) only [go_sem, e2, e3, e5]
      exact hQ _ _ fun w' hs => ⟨by rw [decide_eq_false (fun h => h1 (hget h))], hs.anchor (by simp)⟩
  have g1 : ¬ (i : Int) < (m.toks.length : Int) := by omega
  rw [List.take_of_length_le (by omega), List.take_of_length_le (by omega)] at hf
  simp -implicitDefEqProofs (disch := omega) only [go_sem, e2, e3, e5, g1, decide_false]
  clear hQ' e5 g1
  generalize hH : [Res.cells g' 25 #[.bool m.leaf, .slice a3 m.toks.length c3, .slice a4 m.kids.length c4], Res.cells g 25 #[.bool m.leaf, .slice a1 m.toks.length c1, .slice a2 m.kids.length c2], .anchor w []] = H at *
  refine RLoop_intro (fun f h => ∃ (i : Nat), i ≤ m.kids.length ∧ n.kids.take i = m.kids.take i ∧ f 2 = .pointer (some ⟨g, 0, none⟩) ∧ f 3 = .pointer (some ⟨g', 0, none⟩) ∧ f 6 = .int .i64 (i : Int) ∧ h = H) (fun f _ => (m.kids.length - ival (f 6)).toNat) ?_ ?_
  · exact ⟨0, by omega, rfl, by (first | (simp -implicitDefEqProofs (disch := omega) only [go_sem, e2]; done) | (simp -implicitDefEqProofs (disch := omega) only [go_sem, e2]; rfl)), by (first | (simp -implicitDefEqProofs (disch := omega) only [go_sem, e3]; done) | (simp -implicitDefEqProofs (disch := omega) only [go_sem, e3]; rfl)), by (first | (simp -implicitDefEqProofs (disch := omega) only [go_sem]; done) | (simp -implicitDefEqProofs (disch := omega) only [go_sem]; rfl)), rfl⟩
  rintro f h ⟨j, hj, hf2, q2, q3, q6, rfl⟩ Q' hQ'
  subst hH
  by_cases hil : j < m.kids.length
  · have g1 : (j : Int) < (m.kids.length : Int) := by omega
    obtain ⟨b, o, rfl, hb, hc, _⟩ := three_at hm.kids j (by omega)
    obtain ⟨b2, o2, rfl, hb2, hc2, _⟩ := three_at hm2.kids j hil
    have ht := Tok.take_succ (l := n.kids) (i := j) (by omega)
    have ht2 := Tok.take_succ (l := m.kids) (i := j) hil
    have hget : n = m → n.kids.getD j Tok.tk0 = m.kids.getD j Tok.tk0 := fun h => by rw [h]
    generalize n.kids.getD j Tok.tk0 = t at *
    generalize m.kids.getD j Tok.tk0 = u at *
    simp -implicitDefEqProofs (disch := omega) only [go_sem, q2, q3, q6, g1, decide_true]
    refine RDraw_seg (by kernel_rfl) (by kernel_rfl) 11 rfl ?_
    refine RS_det (by kernel_rfl) ?_
    by_cases h1 : t = u
    · subst h1
      repeat (first | refine ToO_step (fun Q hq => by (simp -implicitDefEqProofs (disch := omega) only [go_sem, q2, q3, q6, hc, hc2, decide_true, Bool.and_self]; exact hq)) ?_ | refine ToO_guard (by (simp -implicitDefEqProofs only [go_sem, q2, q3, q6, hc, hc2, decide_true, Bool.and_self]; first | done | fail)) (fun Q hq => by (simp -implicitDefEqProofs (disch := omega) only [go_sem, q2, q3, q6, hc, hc2, decide_true, Bool.and_self]; exact hq)) ?_ | refine ToO_skip (.inl (by (simp -implicitDefEqProofs only [go_sem, q2, q3, q6, hc, hc2, decide_true, Bool.and_self]; first | done | fail))) ?_ | refine ToO_skip (.inr (by (simp -implicitDefEqProofs only [go_sem, q2, q3, q6, hc, hc2, decide_true, Bool.and_self]; first | done | fail))) ?_)
      refine ToO_nil ?_
      simp -implicitDefEqProofs (disch := omega) only [go_sem, q2, q3, q6]
      refine hQ' _ _ _ (fun _ hs => hs) ⟨j + 1, by omega, by rw [ht, ht2, hf2], ?_, ?_, ?_, rfl⟩ ?_
      · (first | (simp -implicitDefEqProofs (disch := omega) only [go_sem, q2, q3, q6]; done) | (simp -implicitDefEqProofs (disch := omega) only [go_sem, q2, q3, q6]; rfl))
      · (first | (simp -implicitDefEqProofs (disch := omega) only [go_sem, q2, q3, q6]; done) | (simp -implicitDefEqProofs (disch := omega) only [go_sem, q2, q3, q6]; rfl))
      · (first | (simp -implicitDefEqProofs (disch := omega) only [go_sem, q2, q3, q6]; done) | (simp -implicitDefEqProofs (disch := omega) only [go_sem, q2, q3, q6]; rfl))
      · simp -implicitDefEqProofs (disch := omega) only [go_sem, q2, q3, q6]; omega
    · repeat (first | refine ToO_step (fun Q hq => by (simp -implicitDefEqProofs (disch := omega) only [go_sem, q2, q3, q6, hc, hc2, tk_ne h1]; exact hq)) ?_ | refine ToO_guard (by (simp -implicitDefEqProofs only [go_sem, q2, q3, q6, hc, hc2, tk_ne h1]; first | done | fail)) (fun Q hq => by (simp -implicitDefEqProofs (disch := omega) only [go_sem, q2, q3, q6, hc, hc2, tk_ne h1]; exact hq)) ?_ | refine ToO_skip (.inl (by (simp -implicitDefEqProofs only [go_sem, q2, q3, q6, hc, hc2, tk_ne h1]; first | done | fail))) ?_ | refine ToO_skip (.inr (by (simp -implicitDefEqProofs only [go_sem, q2, q3, q6, hc, hc2, tk_ne h1]; first | done | fail))) ?_)
      refine ToO_nil ?_
      simp -implicitDefEqProofs (disch := omega) only [go_sem, q2, q3, q6]
      exact hQ _ _ fun w' hs => ⟨by rw [decide_eq_false (fun h => h1 (hget h))], hs.anchor (by simp)⟩
  have g1 : ¬ (j : Int) < (m.kids.length : Int) := by omega
  rw [List.take_of_length_le (by omega), List.take_of_length_le (by omega)] at hf2
  simp -implicitDefEqProofs (disch := omega) only [go_sem, q2, q3, q6, g1, decide_false]
  exact hQ _ _ fun w' hs => ⟨by rw [decide_eq_true (n_ext hlf hf hf2)], hs.anchor (by simp)⟩
end Go.Proofs.Ytlmbebnpnnkhmaa
