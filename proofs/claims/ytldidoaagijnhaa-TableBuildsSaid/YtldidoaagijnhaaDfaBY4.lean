/- dfa and its reference: the walks: whether an automaton is right, by the reference. -/
import Derived.Test.YtldidoaagijnhaaDfaAY4
namespace Go.Proofs.Ytldidoaagijnhaa
set_option linter.unusedSimpArgs false
set_option linter.unusedVariables false
open H

set_option maxRecDepth 20000 in
set_option maxHeartbeats 2000000 in
theorem rdfa_right (d : Dfa.D) (w : World) (hm : Dfa.Mem w d) : Does Try.prog 34 #[d.val] w fun v w' => v = .bool (decide (Dfa.Right d)) ∧ Ext [] w w' := by
  unfold Dfa.D.val
  refine does (args := [.agg (List.toArray (Dfa.dC (Dfa.clsV d) (.slice d.a d.next.length d.c) (.slice d.ar d.rules.length d.cr)))]) Try.func34 rfl (by kernel_rfl) (by kernel_rfl) rfl ent_34 (Sat.start w []) ?_; intro QV hQ
  have hnl := hm.nlen
  have hul := hm.ulen
  simp only [maxLen] at hnl hul
  simp -implicitDefEqProofs (disch := omega) only [go_sem]
  refine RNew_intro fun g hg => ?_
  simp only [below_cons, below_nil, under_anchor, and_true] at hg
  have bad : ∀ (p : Prop) [Decidable p], ¬ p → decide p = false := fun p _ h => decide_eq_false h
  by_cases h1 : (d.next.length : Int) < 1
  · simp -implicitDefEqProofs (disch := omega) only [go_sem, h1, decide_true]
    exact hQ _ _ fun w' hs => ⟨by rw [bad]; intro h; have := h.1; omega, hs.anchor (by simp)⟩
  by_cases h2 : (1000 : Int) < (d.next.length : Int)
  · simp -implicitDefEqProofs (disch := omega) only [go_sem, h1, h2, decide_true, decide_false]
    exact hQ _ _ fun w' hs => ⟨by rw [bad]; intro h; have := h.2.1; omega, hs.anchor (by simp)⟩
  by_cases h3 : (d.rules.length : Int) = (d.next.length : Int)
  rotate_left
  · simp -implicitDefEqProofs (disch := omega) only [go_sem, h1, h2, h3, decide_true, decide_false]
    exact hQ _ _ fun w' hs => ⟨by rw [bad]; intro h; have := h.2.2.1; omega, hs.anchor (by simp)⟩
  have h3' : d.rules.length = d.next.length := by omega
  simp -implicitDefEqProofs (disch := omega) only [go_sem, h1, h2, h3, decide_true, decide_false]
  generalize hH : [Res.cells g 48 (List.toArray (Dfa.dC (Dfa.clsV d) (.slice d.a d.next.length d.c) (.slice d.ar d.rules.length d.cr))), .anchor w []] = H at *
  refine RLoop_intro (fun f h => ∃ (i : Nat) (n : Int), i ≤ 256 ∧ 0 ≤ n ∧ n ≤ i ∧ Dfa.clsGo d.cls (256 - i) i n = Dfa.classes d ∧ f 1 = .pointer (some ⟨g, 0, none⟩) ∧ f 3 = .int .i64 (d.next.length : Int) ∧ f 4 = .int .i64 n ∧ f 5 = .int .i64 (i : Int) ∧ h = H) (fun f _ => (256 - ival (f 5)).toNat) ?_ ?_
  · exact ⟨0, 0, by omega, by omega, by omega, rfl, by (first | (simp -implicitDefEqProofs (disch := omega) only [go_sem]; done) | (simp -implicitDefEqProofs (disch := omega) only [go_sem]; rfl)), by (first | (simp -implicitDefEqProofs (disch := omega) only [go_sem]; done) | (simp -implicitDefEqProofs (disch := omega) only [go_sem]; rfl)), by (first | (simp -implicitDefEqProofs (disch := omega) only [go_sem]; done) | (simp -implicitDefEqProofs (disch := omega) only [go_sem]; rfl)), by (first | (simp -implicitDefEqProofs (disch := omega) only [go_sem]; done) | (simp -implicitDefEqProofs (disch := omega) only [go_sem]; rfl)), rfl⟩
  rintro f h ⟨i, n, hi, h0, hn, hgo, e1, e3, e4, e5, rfl⟩ Q' hQ'
  by_cases hil : i < 256
  · have g1 : (i : Int) < 256 := by omega
    rw [show 256 - i = (256 - (i + 1)) + 1 by omega, Dfa.clsGo] at hgo
    subst hH
    simp -implicitDefEqProofs (disch := omega) only [go_sem, e1, e3, e4, e5, g1, decide_true, intsV]
    have hbadc : Dfa.classes d = -1 → ¬ Dfa.Right d := fun h hR => by have := hR.2.2.2.1; omega
    generalize hx : d.cls i = x at *
    by_cases h1 : x < 0
    · rw [if_pos (.inl h1)] at hgo
      simp -implicitDefEqProofs (disch := omega) only [go_sem, e1, e3, e4, e5, h1, decide_true]
      exact hQ _ _ fun w' hs => ⟨by rw [bad]; exact hbadc hgo.symm, hs.anchor (by simp)⟩
    by_cases h2 : n < x
    · rw [if_pos (.inr h2)] at hgo
      simp -implicitDefEqProofs (disch := omega) only [go_sem, e1, e3, e4, e5, h1, h2, hx, intsV, decide_true, decide_false]
      exact hQ _ _ fun w' hs => ⟨by rw [bad]; exact hbadc hgo.symm, hs.anchor (by simp)⟩
    rw [if_neg (fun h => h.elim h1 h2)] at hgo
    by_cases h3 : x = n
    · rw [if_pos h3] at hgo
      simp -implicitDefEqProofs (disch := omega) only [go_sem, e1, e3, e4, e5, h1, h2, h3, hx, intsV, decide_true, decide_false]
      subst h3
      simp -implicitDefEqProofs (disch := omega) only [go_sem, e1, e3, e4, e5, h1, hx, intsV, decide_true, decide_false, Int.lt_irrefl]
      refine hQ' _ _ _ (fun _ hs => hs) ⟨i + 1, x + 1, by omega, by omega, by omega, hgo, ?_, ?_, ?_, ?_, rfl⟩ ?_
      · (first | (simp -implicitDefEqProofs (disch := omega) only [go_sem, e1, e3, e4, e5]; done) | (simp -implicitDefEqProofs (disch := omega) only [go_sem, e1, e3, e4, e5]; rfl))
      · (first | (simp -implicitDefEqProofs (disch := omega) only [go_sem, e1, e3, e4, e5]; done) | (simp -implicitDefEqProofs (disch := omega) only [go_sem, e1, e3, e4, e5]; rfl))
      · (first | (simp -implicitDefEqProofs (disch := omega) only [go_sem, e1, e3, e4, e5]; done) | (simp -implicitDefEqProofs (disch := omega) only [go_sem, e1, e3, e4, e5]; rfl))
      · (first | (simp -implicitDefEqProofs (disch := omega) only [go_sem, e1, e3, e4, e5]; done) | (simp -implicitDefEqProofs (disch := omega) only [go_sem, e1, e3, e4, e5]; rfl))
      · simp -implicitDefEqProofs (disch := omega) only [go_sem, e1, e3, e4, e5]; omega
    · rw [if_neg h3] at hgo
      simp -implicitDefEqProofs (disch := omega) only [go_sem, e1, e3, e4, e5, h1, h2, h3, hx, intsV, decide_true, decide_false]
      refine hQ' _ _ _ (fun _ hs => hs) ⟨i + 1, n, by omega, by omega, by omega, hgo, ?_, ?_, ?_, ?_, rfl⟩ ?_
      · (first | (simp -implicitDefEqProofs (disch := omega) only [go_sem, e1, e3, e4, e5]; done) | (simp -implicitDefEqProofs (disch := omega) only [go_sem, e1, e3, e4, e5]; rfl))
      · (first | (simp -implicitDefEqProofs (disch := omega) only [go_sem, e1, e3, e4, e5]; done) | (simp -implicitDefEqProofs (disch := omega) only [go_sem, e1, e3, e4, e5]; rfl))
      · (first | (simp -implicitDefEqProofs (disch := omega) only [go_sem, e1, e3, e4, e5]; done) | (simp -implicitDefEqProofs (disch := omega) only [go_sem, e1, e3, e4, e5]; rfl))
      · (first | (simp -implicitDefEqProofs (disch := omega) only [go_sem, e1, e3, e4, e5]; done) | (simp -implicitDefEqProofs (disch := omega) only [go_sem, e1, e3, e4, e5]; rfl))
      · simp -implicitDefEqProofs (disch := omega) only [go_sem, e1, e3, e4, e5]; omega
  have g1 : ¬ (i : Int) < 256 := by omega
  rw [show 256 - i = 0 by omega, Dfa.clsGo] at hgo
  have hcls : 0 ≤ Dfa.classes d := by omega
  subst hH
  simp -implicitDefEqProofs (disch := omega) only [go_sem, e1, e3, e4, e5, g1, decide_false]
  have hknum : ∃ kn : Nat, Dfa.classes d = (kn : Int) := ⟨(Dfa.classes d).toNat, by omega⟩
  rw [hgo] at e4
  generalize hH : [Res.cells g 48 (List.toArray (Dfa.dC (Dfa.clsV d) (.slice d.a d.next.length d.c) (.slice d.ar d.rules.length d.cr))), .anchor w []] = H at *
  refine RLoop_intro (fun f h => ∃ (i : Nat), i ≤ d.next.length ∧ (∀ j, j < i → Dfa.RowOk d j) ∧ f 1 = .pointer (some ⟨g, 0, none⟩) ∧ f 3 = .int .i64 (d.next.length : Int) ∧ f 4 = .int .i64 (Dfa.classes d) ∧ f 6 = .int .i64 (i : Int) ∧ h = H) (fun f _ => (d.next.length - ival (f 6)).toNat) ?_ ?_
  · exact ⟨0, by omega, by omega, by (first | (simp -implicitDefEqProofs (disch := omega) only [go_sem, e1, e3, e4, e5]; done) | (simp -implicitDefEqProofs (disch := omega) only [go_sem, e1, e3, e4, e5]; rfl)), by (first | (simp -implicitDefEqProofs (disch := omega) only [go_sem, e1, e3, e4, e5]; done) | (simp -implicitDefEqProofs (disch := omega) only [go_sem, e1, e3, e4, e5]; rfl)), by (first | (simp -implicitDefEqProofs (disch := omega) only [go_sem, e1, e3, e4, e5]; done) | (simp -implicitDefEqProofs (disch := omega) only [go_sem, e1, e3, e4, e5]; rfl)), by (first | (simp -implicitDefEqProofs (disch := omega) only [go_sem]; done) | (simp -implicitDefEqProofs (disch := omega) only [go_sem]; rfl)), rfl⟩
  clear hi h0 hn hgo e1 e3 e4 e5 hQ' g1 hil
  rintro f h ⟨i, hi, hok, e1, e3, e4, e6, rfl⟩ Q' hQ'
  by_cases hil : i < d.next.length
  rotate_left
  · have g1 : ¬ (i : Int) < (d.next.length : Int) := by omega
    subst hH
    simp -implicitDefEqProofs (disch := omega) only [go_sem, e1, e3, e4, e6, g1, decide_false]
    exact hQ _ _ fun w' hs => ⟨by rw [decide_eq_true]; exact ⟨by omega, by omega, h3', by omega, fun j hj => hok j (by omega)⟩, hs.anchor (by simp)⟩
  have g1 : (i : Int) < (d.next.length : Int) := by omega
  obtain ⟨bn, on, en, hbn, hcn⟩ := Dfa.next_at hm i hil
  obtain ⟨br, or_, er, hbr, hcr⟩ := Dfa.ints_at hm.rules i (by omega)
  have hrl := hm.rlen i
  simp only [maxLen] at hrl
  have hri : ∀ j, j < (Dfa.row d i).length → ∃ b o, d.ra i = some ⟨b, o, none⟩ ∧ b < w.heap.size ∧ w.cell? ⟨b, o + j, none⟩ = some (.int .i64 ((Dfa.row d i).getD j 0)) := fun j hj => Dfa.ints_at (hm.rows i hil) j hj
  generalize hrv : d.rules.getD i 0 = rv at *
  have hbadrow : ¬ Dfa.RowOk d i → ¬ Dfa.Right d := fun h hR => h (hR.2.2.2.2 i hil)
  subst hH
  rw [en, er]
  simp -implicitDefEqProofs (disch := omega) only [go_sem, e1, e3, e4, e6, g1, hcn, hcr, decide_true]
  by_cases k1 : rv < -1
  · simp -implicitDefEqProofs (disch := omega) only [go_sem, e1, e3, e4, e6, k1, decide_true]
    exact hQ _ _ fun w' hs => ⟨by rw [bad]; exact hbadrow fun h => by have := h.1; rw [hrv] at this; omega, hs.anchor (by simp)⟩
  by_cases k2 : 31 < rv
  · simp -implicitDefEqProofs (disch := omega) only [go_sem, e1, e3, e4, e6, k1, k2, hcr, decide_true, decide_false]
    exact hQ _ _ fun w' hs => ⟨by rw [bad]; exact hbadrow fun h => by have := h.2.1; rw [hrv] at this; omega, hs.anchor (by simp)⟩
  by_cases k3 : ((Dfa.row d i).length : Int) = Dfa.classes d
  rotate_left
  · simp -implicitDefEqProofs (disch := omega) only [go_sem, e1, e3, e4, e6, k1, k2, k3, hcn, hcr, decide_true, decide_false]
    exact hQ _ _ fun w' hs => ⟨by rw [bad]; exact hbadrow fun h => k3 h.2.2.1, hs.anchor (by simp)⟩
  simp -implicitDefEqProofs (disch := omega) only [go_sem, e1, e3, e4, e6, k1, k2, k3, hcn, hcr, decide_true, decide_false]
  generalize hH : [Res.cells g 48 (List.toArray (Dfa.dC (Dfa.clsV d) (.slice (some ⟨bn, on, none⟩) d.next.length d.c) (.slice (some ⟨br, or_, none⟩) d.rules.length d.cr))), .anchor w []] = H at *
  refine RLoop_intro (fun f h => ∃ (j : Nat), j ≤ (Dfa.row d i).length ∧ (∀ k, k < j → 0 ≤ (Dfa.row d i).getD k 0 ∧ (Dfa.row d i).getD k 0 < d.next.length) ∧ f 1 = .pointer (some ⟨g, 0, none⟩) ∧ f 3 = .int .i64 (d.next.length : Int) ∧ f 4 = .int .i64 (Dfa.classes d) ∧ f 6 = .int .i64 (i : Int) ∧
    f 7 = .int .i64 (j : Int) ∧ h = H) (fun f _ => ((Dfa.row d i).length - ival (f 7)).toNat) ?_ ?_
  · exact ⟨0, by omega, by omega, by (first | (simp -implicitDefEqProofs (disch := omega) only [go_sem, e1, e3, e4, e6]; done) | (simp -implicitDefEqProofs (disch := omega) only [go_sem, e1, e3, e4, e6]; rfl)), by (first | (simp -implicitDefEqProofs (disch := omega) only [go_sem, e1, e3, e4, e6]; done) | (simp -implicitDefEqProofs (disch := omega) only [go_sem, e1, e3, e4, e6]; rfl)), by (first | (simp -implicitDefEqProofs (disch := omega) only [go_sem, e1, e3, e4, e6]; done) | (simp -implicitDefEqProofs (disch := omega) only [go_sem, e1, e3, e4, e6]; rfl)), by (first | (simp -implicitDefEqProofs (disch := omega) only [go_sem, e1, e3, e4, e6]; done) | (simp -implicitDefEqProofs (disch := omega) only [go_sem, e1, e3, e4, e6]; rfl)), by (first | (simp -implicitDefEqProofs (disch := omega) only [go_sem]; done) | (simp -implicitDefEqProofs (disch := omega) only [go_sem]; rfl)), rfl⟩
  rintro f h ⟨j, hj, hjok, q1, q3, q4, q6, q7, rfl⟩ Q'' hQ''
  by_cases hjl : j < (Dfa.row d i).length
  · have g2 : (j : Int) < Dfa.classes d := by omega
    obtain ⟨b2, o2, e2, hb2, hc2⟩ := hri j hjl
    rw [e2] at hcn
    generalize hxv : (Dfa.row d i).getD j 0 = x at *
    subst hH
    simp -implicitDefEqProofs (disch := omega) only [go_sem, q1, q3, q4, q6, q7, g2, hcn, hc2, decide_true]
    by_cases m1 : x < 0
    · simp -implicitDefEqProofs (disch := omega) only [go_sem, q1, q3, q4, q6, q7, m1, decide_true]
      exact hQ _ _ fun w' hs => ⟨by rw [bad]; exact hbadrow fun h => by have := (h.2.2.2 j hjl).1; rw [hxv] at this; omega, hs.anchor (by simp)⟩
    by_cases m2 : (d.next.length : Int) ≤ x
    · simp -implicitDefEqProofs (disch := omega) only [go_sem, q1, q3, q4, q6, q7, m1, m2, hcn, hc2, decide_true, decide_false]
      exact hQ _ _ fun w' hs => ⟨by rw [bad]; exact hbadrow fun h => by have := (h.2.2.2 j hjl).2; rw [hxv] at this; omega, hs.anchor (by simp)⟩
    simp -implicitDefEqProofs (disch := omega) only [go_sem, q1, q3, q4, q6, q7, m1, m2, hcn, hc2, decide_true, decide_false]
    refine hQ'' _ _ _ (fun _ hs => hs) ⟨j + 1, by omega, fun k hk => ?_, ?_, ?_, ?_, ?_, ?_, rfl⟩ ?_
    · by_cases hkj : k = j
      · subst hkj; rw [hxv]; omega
      · exact hjok k (by omega)
    · (first | (simp -implicitDefEqProofs (disch := omega) only [go_sem, q1, q3, q4, q6, q7]; done) | (simp -implicitDefEqProofs (disch := omega) only [go_sem, q1, q3, q4, q6, q7]; rfl))
    · (first | (simp -implicitDefEqProofs (disch := omega) only [go_sem, q1, q3, q4, q6, q7]; done) | (simp -implicitDefEqProofs (disch := omega) only [go_sem, q1, q3, q4, q6, q7]; rfl))
    · (first | (simp -implicitDefEqProofs (disch := omega) only [go_sem, q1, q3, q4, q6, q7]; done) | (simp -implicitDefEqProofs (disch := omega) only [go_sem, q1, q3, q4, q6, q7]; rfl))
    · (first | (simp -implicitDefEqProofs (disch := omega) only [go_sem, q1, q3, q4, q6, q7]; done) | (simp -implicitDefEqProofs (disch := omega) only [go_sem, q1, q3, q4, q6, q7]; rfl))
    · (first | (simp -implicitDefEqProofs (disch := omega) only [go_sem, q1, q3, q4, q6, q7]; done) | (simp -implicitDefEqProofs (disch := omega) only [go_sem, q1, q3, q4, q6, q7]; rfl))
    · simp -implicitDefEqProofs (disch := omega) only [go_sem, q1, q3, q4, q6, q7]; omega
  · have g2 : ¬ (j : Int) < Dfa.classes d := by omega
    subst hH
    simp -implicitDefEqProofs (disch := omega) only [go_sem, q1, q3, q4, q6, q7, g2, decide_false]
    refine hQ' _ _ _ (fun _ hs => hs) ⟨i + 1, by omega, fun k hk => ?_, ?_, ?_, ?_, ?_, by rw [en, er]⟩ ?_
    · by_cases hki : k = i
      · subst hki; exact ⟨by rw [hrv]; omega, by rw [hrv]; omega, k3, fun k hk => hjok k (by omega)⟩
      · exact hok k (by omega)
    · (first | (simp -implicitDefEqProofs (disch := omega) only [go_sem, q1, q3, q4, q6, q7]; done) | (simp -implicitDefEqProofs (disch := omega) only [go_sem, q1, q3, q4, q6, q7]; rfl))
    · (first | (simp -implicitDefEqProofs (disch := omega) only [go_sem, q1, q3, q4, q6, q7]; done) | (simp -implicitDefEqProofs (disch := omega) only [go_sem, q1, q3, q4, q6, q7]; rfl))
    · (first | (simp -implicitDefEqProofs (disch := omega) only [go_sem, q1, q3, q4, q6, q7]; done) | (simp -implicitDefEqProofs (disch := omega) only [go_sem, q1, q3, q4, q6, q7]; rfl))
    · (first | (simp -implicitDefEqProofs (disch := omega) only [go_sem, q1, q3, q4, q6, q7]; done) | (simp -implicitDefEqProofs (disch := omega) only [go_sem, q1, q3, q4, q6, q7]; rfl))
    · simp -implicitDefEqProofs (disch := omega) only [go_sem, q1, q3, q4, q6, q7, e6]; omega
end Go.Proofs.Ytldidoaagijnhaa
