/- dfa and its reference: the walks: whether two are alike, by the reference. -/
import Derived.Test.YtldidoaagijnhaaDfaDY4
namespace Go.Proofs.Ytldidoaagijnhaa
set_option linter.unusedSimpArgs false
set_option linter.unusedVariables false
open H
set_option maxRecDepth 20000 in
set_option maxHeartbeats 4000000 in
theorem rdfa_same (d e : Dfa.D) (w : World) (hm : Dfa.Mem w d) (he : Dfa.Mem w e) : Does Try.prog 33 #[d.val, e.val] w fun v w' => v = .bool (Dfa.sameB d e) ∧ Ext [] w w' := by
  unfold Dfa.D.val
  refine does (args := [.agg (List.toArray (Dfa.dC (Dfa.clsV d) (.slice d.a d.next.length d.c) (.slice d.ar d.rules.length d.cr))), .agg (List.toArray (Dfa.dC (Dfa.clsV e) (.slice e.a e.next.length e.c) (.slice e.ar e.rules.length e.cr)))]) Try.func33 rfl (by kernel_rfl) (by kernel_rfl) rfl ent_33 (Sat.start w []) ?_; intro QV hQ
  have hnl := hm.nlen
  have hnl2 := he.nlen
  have hul := hm.ulen
  have hul2 := he.ulen
  simp only [maxLen] at hnl hnl2 hul hul2
  simp -implicitDefEqProofs (disch := omega) only [go_sem]
  refine RNew_intro fun g hg => ?_
  simp only [below_cons, below_nil, under_anchor, and_true] at hg
  simp -implicitDefEqProofs (disch := omega) only [go_sem]
  refine RNew_intro fun g2 hg2 => ?_
  simp only [below_cons, below_nil, under_anchor, under_cells, and_true] at hg2
  cases h1 : alike 256 d.cls e.cls with
  | false =>
    simp -implicitDefEqProofs (disch := omega) only [go_sem, arr_cls, h1]
    exact hQ _ _ fun w' hs => ⟨by rw [same_no1 h1], hs.anchor (by simp)⟩
  | true =>
  by_cases h2 : d.next.length = e.next.length
  rotate_left
  · have h2' : ¬ (d.next.length : Int) = (e.next.length : Int) := by omega
    simp -implicitDefEqProofs (disch := omega) only [go_sem, arr_cls, h1, h2', decide_false]
    exact hQ _ _ fun w' hs => ⟨by rw [same_no2 fun h => h2 (by rw [h])], hs.anchor (by simp)⟩
  have h2' : (d.next.length : Int) = (e.next.length : Int) := by omega
  by_cases h3 : d.rules.length = e.rules.length
  rotate_left
  · have h3' : ¬ (d.rules.length : Int) = (e.rules.length : Int) := by omega
    simp -implicitDefEqProofs (disch := omega) only [go_sem, arr_cls, h1, h2', h3', decide_true, decide_false]
    exact hQ _ _ fun w' hs => ⟨by rw [same_no3 fun h => h3 (by rw [h])], hs.anchor (by simp)⟩
  have h3' : (d.rules.length : Int) = (e.rules.length : Int) := by omega
  simp -implicitDefEqProofs (disch := omega) only [go_sem, arr_cls, h1, h2', h3', decide_true]
  have hH0 : ∃ H, H = [Res.cells g2 48 (List.toArray (Dfa.dC (Dfa.clsV e) (.slice e.a e.next.length e.c) (.slice e.ar e.rules.length e.cr))), Res.cells g 48 (List.toArray (Dfa.dC (Dfa.clsV d) (.slice d.a d.next.length d.c) (.slice d.ar d.rules.length d.cr))), .anchor w []] := ⟨_, rfl⟩
  obtain ⟨H, hH⟩ := hH0
  refine RLoop_intro (fun f h => ∃ (i : Nat), i ≤ d.next.length ∧ (∀ j, j < i → Dfa.row d j = Dfa.row e j) ∧ f 2 = .pointer (some ⟨g, 0, none⟩) ∧ f 3 = .pointer (some ⟨g2, 0, none⟩) ∧ f 5 = .int .i64 (i : Int) ∧ h = H) (fun f _ => (d.next.length - ival (f 5)).toNat) ?_ ?_
  · exact ⟨0, by omega, by omega, by (first | (simp -implicitDefEqProofs (disch := omega) only [go_sem]; done) | (simp -implicitDefEqProofs (disch := omega) only [go_sem]; rfl)), by (first | (simp -implicitDefEqProofs (disch := omega) only [go_sem]; done) | (simp -implicitDefEqProofs (disch := omega) only [go_sem]; rfl)), by (first | (simp -implicitDefEqProofs (disch := omega) only [go_sem]; done) | (simp -implicitDefEqProofs (disch := omega) only [go_sem]; rfl)), by rw [hH, h2, h3]⟩
  rintro f h ⟨i, hi, hrows, e2, e3, e5, rfl⟩ Q' hQ'
  by_cases hil : i < d.next.length
  rotate_left
  · have g1 : ¬ (i : Int) < (d.next.length : Int) := by omega
    have hrows' := Dfa.next_ext h2 fun j hj => hrows j (by omega)
    rw [hH]
    simp -implicitDefEqProofs (disch := omega) only [go_sem, e2, e3, e5, g1, decide_false]
    rw [← hH]
    refine RLoop_intro (fun f h' => ∃ (i : Nat), i ≤ d.rules.length ∧ d.rules.take i = e.rules.take i ∧ f 2 = .pointer (some ⟨g, 0, none⟩) ∧ f 3 = .pointer (some ⟨g2, 0, none⟩) ∧ f 7 = .int .i64 (i : Int) ∧ h' = h) (fun f _ => (d.rules.length - ival (f 7)).toNat) ?_ ?_
    · exact ⟨0, by omega, rfl, by (first | (simp -implicitDefEqProofs (disch := omega) only [go_sem, e2, e3, e5]; done) | (simp -implicitDefEqProofs (disch := omega) only [go_sem, e2, e3, e5]; rfl)), by (first | (simp -implicitDefEqProofs (disch := omega) only [go_sem, e2, e3, e5]; done) | (simp -implicitDefEqProofs (disch := omega) only [go_sem, e2, e3, e5]; rfl)), by (first | (simp -implicitDefEqProofs (disch := omega) only [go_sem]; done) | (simp -implicitDefEqProofs (disch := omega) only [go_sem]; rfl)), rfl⟩
    rintro f h ⟨k, hk, hf, q2, q3, q7, rfl⟩ Q'' hQ''
    by_cases hkl : k < d.rules.length
    · have g2' : (k : Int) < (d.rules.length : Int) := by omega
      obtain ⟨b1, o1, n1, hb1, hc1⟩ := Dfa.ints_at hm.rules k hkl
      obtain ⟨b2, o2, n2, hb2, hc2⟩ := Dfa.ints_at he.rules k (by omega)
      have ht := Dfa.take_succ d.rules 0 k hkl
      have ht2 := Dfa.take_succ e.rules 0 k (by omega)
      have hget : d.rules = e.rules → d.rules.getD k 0 = e.rules.getD k 0 := fun h => by rw [h]
      generalize d.rules.getD k 0 = t at *
      generalize e.rules.getD k 0 = u at *
      rw [hH]
      rw [n1, n2]
      simp -implicitDefEqProofs (disch := omega) only [go_sem, q2, q3, q7, g2', decide_true]
      refine RDraw_seg (by kernel_rfl) (by kernel_rfl) 11 rfl ?_
      refine RS_det (by kernel_rfl) ?_
      by_cases h4 : t = u
      · subst h4
        repeat (first | refine ToO_step (fun Q hq => by (simp -implicitDefEqProofs (disch := omega) only [go_sem, q2, q3, q7, hc1, hc2, decide_true]; exact hq)) ?_ | refine ToO_guard (by (simp -implicitDefEqProofs only [go_sem, q2, q3, q7, hc1, hc2, decide_true]; first | done | fail)) (fun Q hq => by (simp -implicitDefEqProofs (disch := omega) only [go_sem, q2, q3, q7, hc1, hc2, decide_true]; exact hq)) ?_ | refine ToO_skip (.inl (by (simp -implicitDefEqProofs only [go_sem, q2, q3, q7, hc1, hc2, decide_true]; first | done | fail))) ?_ | refine ToO_skip (.inr (by (simp -implicitDefEqProofs only [go_sem, q2, q3, q7, hc1, hc2, decide_true]; first | done | fail))) ?_)
        refine ToO_nil ?_
        simp -implicitDefEqProofs (disch := omega) only [go_sem, q2, q3, q7]
        refine hQ'' _ _ _ (fun _ hs => hs) ⟨k + 1, by omega, ?_, ?_, ?_, ?_, by rw [hH, n1, n2]⟩ ?_
        · rw [ht, ht2, hf]
        · (first | (simp -implicitDefEqProofs (disch := omega) only [go_sem, q2, q3, q7]; done) | (simp -implicitDefEqProofs (disch := omega) only [go_sem, q2, q3, q7]; rfl))
        · (first | (simp -implicitDefEqProofs (disch := omega) only [go_sem, q2, q3, q7]; done) | (simp -implicitDefEqProofs (disch := omega) only [go_sem, q2, q3, q7]; rfl))
        · (first | (simp -implicitDefEqProofs (disch := omega) only [go_sem, q2, q3, q7]; done) | (simp -implicitDefEqProofs (disch := omega) only [go_sem, q2, q3, q7]; rfl))
        · simp -implicitDefEqProofs (disch := omega) only [go_sem, q2, q3, q7]; omega
      · repeat (first | refine ToO_step (fun Q hq => by (simp -implicitDefEqProofs (disch := omega) only [go_sem, q2, q3, q7, hc1, hc2, h4, decide_false]; exact hq)) ?_ | refine ToO_guard (by (simp -implicitDefEqProofs only [go_sem, q2, q3, q7, hc1, hc2, h4, decide_false]; first | done | fail)) (fun Q hq => by (simp -implicitDefEqProofs (disch := omega) only [go_sem, q2, q3, q7, hc1, hc2, h4, decide_false]; exact hq)) ?_ | refine ToO_skip (.inl (by (simp -implicitDefEqProofs only [go_sem, q2, q3, q7, hc1, hc2, h4, decide_false]; first | done | fail))) ?_ | refine ToO_skip (.inr (by (simp -implicitDefEqProofs only [go_sem, q2, q3, q7, hc1, hc2, h4, decide_false]; first | done | fail))) ?_)
        refine ToO_nil ?_
        simp -implicitDefEqProofs (disch := omega) only [go_sem]
        exact hQ _ _ fun w' hs => ⟨by rw [same_no3]; intro h; exact h4 (hget h), hs.anchor (by simp)⟩
    · have g2' : ¬ (k : Int) < (d.rules.length : Int) := by omega
      rw [List.take_of_length_le (by omega), List.take_of_length_le (by omega)] at hf
      rw [hH]
      simp -implicitDefEqProofs (disch := omega) only [go_sem, q2, q3, q7, g2', decide_false]
      exact hQ _ _ fun w' hs => ⟨by rw [same_yes h1 hrows' hf], hs.anchor (by simp)⟩
  have g1 : (i : Int) < (d.next.length : Int) := by omega
  obtain ⟨b1, o1, n1, hb1, hc1⟩ := Dfa.next_at hm i hil
  obtain ⟨b2, o2, n2, hb2, hc2⟩ := Dfa.next_at he i (by omega)
  have hr1 := hm.rlen i
  have hr2 := he.rlen i
  simp only [maxLen] at hr1 hr2
  rw [hH, n1, n2]
  simp -implicitDefEqProofs (disch := omega) only [go_sem, e2, e3, e5, g1, decide_true]
  refine RDraw_seg (by kernel_rfl) (by kernel_rfl) 13 rfl ?_
  refine RS_det (by kernel_rfl) ?_
  by_cases h5 : (Dfa.row d i).length = (Dfa.row e i).length
  rotate_left
  · have h5' : ¬ ((Dfa.row d i).length : Int) = ((Dfa.row e i).length : Int) := by omega
    repeat (first | refine ToO_step (fun Q hq => by (simp -implicitDefEqProofs (disch := omega) only [go_sem, e2, e3, e5, hc1, hc2, h5', decide_false]; exact hq)) ?_ | refine ToO_guard (by (simp -implicitDefEqProofs only [go_sem, e2, e3, e5, hc1, hc2, h5', decide_false]; first | done | fail)) (fun Q hq => by (simp -implicitDefEqProofs (disch := omega) only [go_sem, e2, e3, e5, hc1, hc2, h5', decide_false]; exact hq)) ?_ | refine ToO_skip (.inl (by (simp -implicitDefEqProofs only [go_sem, e2, e3, e5, hc1, hc2, h5', decide_false]; first | done | fail))) ?_ | refine ToO_skip (.inr (by (simp -implicitDefEqProofs only [go_sem, e2, e3, e5, hc1, hc2, h5', decide_false]; first | done | fail))) ?_)
    refine ToO_nil ?_
    simp -implicitDefEqProofs (disch := omega) only [go_sem]
    exact hQ _ _ fun w' hs => ⟨by rw [same_no2]; intro h; apply h5; unfold Dfa.row; rw [h], hs.anchor (by simp)⟩
  have h5' : ((Dfa.row d i).length : Int) = ((Dfa.row e i).length : Int) := by omega
  repeat (first | refine ToO_step (fun Q hq => by (simp -implicitDefEqProofs (disch := omega) only [go_sem, e2, e3, e5, hc1, hc2, h5', decide_true]; exact hq)) ?_ | refine ToO_guard (by (simp -implicitDefEqProofs only [go_sem, e2, e3, e5, hc1, hc2, h5', decide_true]; first | done | fail)) (fun Q hq => by (simp -implicitDefEqProofs (disch := omega) only [go_sem, e2, e3, e5, hc1, hc2, h5', decide_true]; exact hq)) ?_ | refine ToO_skip (.inl (by (simp -implicitDefEqProofs only [go_sem, e2, e3, e5, hc1, hc2, h5', decide_true]; first | done | fail))) ?_ | refine ToO_skip (.inr (by (simp -implicitDefEqProofs only [go_sem, e2, e3, e5, hc1, hc2, h5', decide_true]; first | done | fail))) ?_)
  refine ToO_nil ?_
  simp -implicitDefEqProofs (disch := omega) only [go_sem, e2, e3, e5]
  rw [← n1, ← n2, ← hH]
  refine RLoop_intro (fun f h' => ∃ (j : Nat), j ≤ (Dfa.row d i).length ∧ (Dfa.row d i).take j = (Dfa.row e i).take j ∧ f 2 = .pointer (some ⟨g, 0, none⟩) ∧ f 3 = .pointer (some ⟨g2, 0, none⟩) ∧ f 5 = .int .i64 (i : Int) ∧ f 6 = .int .i64 (j : Int) ∧ h' = h) (fun f _ => ((Dfa.row d i).length - ival (f 6)).toNat) ?_ ?_
  · exact ⟨0, by omega, rfl, by (first | (simp -implicitDefEqProofs (disch := omega) only [go_sem, e2, e3, e5]; done) | (simp -implicitDefEqProofs (disch := omega) only [go_sem, e2, e3, e5]; rfl)), by (first | (simp -implicitDefEqProofs (disch := omega) only [go_sem, e2, e3, e5]; done) | (simp -implicitDefEqProofs (disch := omega) only [go_sem, e2, e3, e5]; rfl)), by (first | (simp -implicitDefEqProofs (disch := omega) only [go_sem, e2, e3, e5]; done) | (simp -implicitDefEqProofs (disch := omega) only [go_sem, e2, e3, e5]; rfl)), by (first | (simp -implicitDefEqProofs (disch := omega) only [go_sem]; done) | (simp -implicitDefEqProofs (disch := omega) only [go_sem]; rfl)), rfl⟩
  rintro f h ⟨j, hj, hf, q2, q3, q5, q6, rfl⟩ Q'' hQ''
  by_cases hjl : j < (Dfa.row d i).length
  · have g2' : (j : Int) < ((Dfa.row d i).length : Int) := by omega
    obtain ⟨b3, o3, n3, hb3, hc3⟩ := Dfa.ints_at (hm.rows i hil) j hjl
    obtain ⟨b4, o4, n4, hb4, hc4⟩ := Dfa.ints_at (he.rows i (by omega)) j (by omega)
    have ht := Dfa.take_succ (Dfa.row d i) 0 j hjl
    have ht2 := Dfa.take_succ (Dfa.row e i) 0 j (by omega)
    have hget : Dfa.row d i = Dfa.row e i → (Dfa.row d i).getD j 0 = (Dfa.row e i).getD j 0 := fun h => by rw [h]
    generalize (Dfa.row d i).getD j 0 = t at *
    generalize (Dfa.row e i).getD j 0 = u at *
    rw [n3] at hc1
    rw [n4] at hc2
    rw [hH, n1, n2]
    simp -implicitDefEqProofs (disch := omega) only [go_sem, q2, q3, q5, q6, g1, hc1, g2', decide_true]
    refine RDraw_seg (by kernel_rfl) (by kernel_rfl) 17 rfl ?_
    refine RS_det (by kernel_rfl) ?_
    by_cases h4 : t = u
    · subst h4
      repeat (first | refine ToO_step (fun Q hq => by (simp -implicitDefEqProofs (disch := omega) only [go_sem, q2, q3, q5, q6, hc1, hc2, hc3, hc4, decide_true]; exact hq)) ?_ | refine ToO_guard (by (simp -implicitDefEqProofs only [go_sem, q2, q3, q5, q6, hc1, hc2, hc3, hc4, decide_true]; first | done | fail)) (fun Q hq => by (simp -implicitDefEqProofs (disch := omega) only [go_sem, q2, q3, q5, q6, hc1, hc2, hc3, hc4, decide_true]; exact hq)) ?_ | refine ToO_skip (.inl (by (simp -implicitDefEqProofs only [go_sem, q2, q3, q5, q6, hc1, hc2, hc3, hc4, decide_true]; first | done | fail))) ?_ | refine ToO_skip (.inr (by (simp -implicitDefEqProofs only [go_sem, q2, q3, q5, q6, hc1, hc2, hc3, hc4, decide_true]; first | done | fail))) ?_)
      refine ToO_nil ?_
      simp -implicitDefEqProofs (disch := omega) only [go_sem, q2, q3, q5, q6]
      refine hQ'' _ _ _ (fun _ hs => hs) ⟨j + 1, by omega, ?_, ?_, ?_, ?_, ?_, by rw [hH, n1, n2]⟩ ?_
      · rw [ht, ht2, hf]
      · (first | (simp -implicitDefEqProofs (disch := omega) only [go_sem, q2, q3, q5, q6]; done) | (simp -implicitDefEqProofs (disch := omega) only [go_sem, q2, q3, q5, q6]; rfl))
      · (first | (simp -implicitDefEqProofs (disch := omega) only [go_sem, q2, q3, q5, q6]; done) | (simp -implicitDefEqProofs (disch := omega) only [go_sem, q2, q3, q5, q6]; rfl))
      · (first | (simp -implicitDefEqProofs (disch := omega) only [go_sem, q2, q3, q5, q6]; done) | (simp -implicitDefEqProofs (disch := omega) only [go_sem, q2, q3, q5, q6]; rfl))
      · (first | (simp -implicitDefEqProofs (disch := omega) only [go_sem, q2, q3, q5, q6]; done) | (simp -implicitDefEqProofs (disch := omega) only [go_sem, q2, q3, q5, q6]; rfl))
      · simp -implicitDefEqProofs (disch := omega) only [go_sem, q2, q3, q5, q6]; omega
    · repeat (first | refine ToO_step (fun Q hq => by (simp -implicitDefEqProofs (disch := omega) only [go_sem, q2, q3, q5, q6, hc1, hc2, hc3, hc4, h4, decide_false]; exact hq)) ?_ | refine ToO_guard (by (simp -implicitDefEqProofs only [go_sem, q2, q3, q5, q6, hc1, hc2, hc3, hc4, h4, decide_false]; first | done | fail)) (fun Q hq => by (simp -implicitDefEqProofs (disch := omega) only [go_sem, q2, q3, q5, q6, hc1, hc2, hc3, hc4, h4, decide_false]; exact hq)) ?_ | refine ToO_skip (.inl (by (simp -implicitDefEqProofs only [go_sem, q2, q3, q5, q6, hc1, hc2, hc3, hc4, h4, decide_false]; first | done | fail))) ?_ | refine ToO_skip (.inr (by (simp -implicitDefEqProofs only [go_sem, q2, q3, q5, q6, hc1, hc2, hc3, hc4, h4, decide_false]; first | done | fail))) ?_)
      refine ToO_nil ?_
      simp -implicitDefEqProofs (disch := omega) only [go_sem]
      exact hQ _ _ fun w' hs => ⟨by rw [same_no2]; intro h; exact h4 (hget (by unfold Dfa.row; rw [h])), hs.anchor (by simp)⟩
  · have g2' : ¬ (j : Int) < ((Dfa.row d i).length : Int) := by omega
    rw [List.take_of_length_le (by omega), List.take_of_length_le (by omega)] at hf
    rw [hH, n1, n2]
    simp -implicitDefEqProofs (disch := omega) only [go_sem, q2, q3, q5, q6, g1, hc1, g2', decide_false]
    refine hQ' _ _ _ (fun _ hs => hs) ⟨i + 1, by omega, fun k hk => ?_, ?_, ?_, ?_, by rw [hH, n1, n2]⟩ ?_
    · by_cases hki : k = i
      · subst hki; exact hf
      · exact hrows k (by omega)
    · (first | (simp -implicitDefEqProofs (disch := omega) only [go_sem, q2, q3, q5, q6]; done) | (simp -implicitDefEqProofs (disch := omega) only [go_sem, q2, q3, q5, q6]; rfl))
    · (first | (simp -implicitDefEqProofs (disch := omega) only [go_sem, q2, q3, q5, q6]; done) | (simp -implicitDefEqProofs (disch := omega) only [go_sem, q2, q3, q5, q6]; rfl))
    · (first | (simp -implicitDefEqProofs (disch := omega) only [go_sem, q2, q3, q5, q6]; done) | (simp -implicitDefEqProofs (disch := omega) only [go_sem, q2, q3, q5, q6]; rfl))
    · simp -implicitDefEqProofs (disch := omega) only [go_sem, q2, q3, q5, q6, e5]; omega
end Go.Proofs.Ytldidoaagijnhaa
