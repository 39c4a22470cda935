/- dfa and its reference: the walks: whether an automaton is right. -/
import Derived.Test.YtldidoaagijnhaaTypes
import Derived.Test.YtldidoaagijnhaaDfaMY4
import Derived.Test.YtldidoaagijnhaaSeg
namespace Go.Proofs.Ytldidoaagijnhaa
set_option linter.unusedSimpArgs false
set_option linter.unusedVariables false
open H
theorem zero_dfa : zeroT Try.prog 48 = some (.agg (List.toArray (Dfa.dC (intsV (fun _ => 0) .i64) (.slice none 0 0) (.slice none 0 0)))) := by rw [← Dfa.zero_eq]; exact zero_48
attribute [go_sem] zero_dfa Dfa.dC_set256 Dfa.dC_set257 Dfa.hsetN_dC Dfa.dC_len Dfa.dC_lt Dfa.dC_256 Dfa.dC_257 Dfa.dC_all Dfa.dC_cls vals_len vals_get

set_option maxRecDepth 20000 in
set_option maxHeartbeats 1000000 in
theorem dfa_classes (d : Dfa.D) (w : World) : Does Try.prog 69 #[d.val] w fun v w' => v = .int .i64 (Dfa.classes d) ∧ Ext [] w w' := by
  unfold Dfa.D.val
  refine does (args := [.agg (List.toArray (Dfa.dC (Dfa.clsV d) (.slice d.a d.next.length d.c) (.slice d.ar d.rules.length d.cr)))]) Try.func69 rfl (by kernel_rfl) (by kernel_rfl) rfl ent_69 (Sat.start w []) ?_; intro QV hQ
  simp -implicitDefEqProofs (disch := omega) only [go_sem]
  refine RNew_intro fun g hg => ?_
  simp only [below_cons, below_nil, under_anchor, and_true] at hg
  simp -implicitDefEqProofs (disch := omega) only [go_sem]
  refine RLoop_from (fun f h => ∃ (i : Nat) (n : Int), i ≤ 256 ∧ 0 ≤ n ∧ n ≤ i ∧ Dfa.clsGo d.cls (256 - i) i n = Dfa.classes d ∧ f 3 = .int .i64 n ∧ f 7 = .agg (List.toArray (vals 256 (Dfa.clsV d))) ∧ f 8 = .int .i64 (i : Int) ∧ h = [.anchor w []]) (fun f _ => (256 - ival (f 8)).toNat) ?_ ?_
  · exact fun w1 hs => ⟨_, hs.2.2.2, 0, 0, by omega, by omega, by omega, rfl, by (first | (simp -implicitDefEqProofs (disch := omega) only [go_sem]; done) | (simp -implicitDefEqProofs (disch := omega) only [go_sem]; rfl)), by (first | (simp -implicitDefEqProofs (disch := omega) only [go_sem]; done) | (simp -implicitDefEqProofs (disch := omega) only [go_sem]; rfl)), by (first | (simp -implicitDefEqProofs (disch := omega) only [go_sem]; done) | (simp -implicitDefEqProofs (disch := omega) only [go_sem]; rfl)), rfl⟩
  rintro f h ⟨i, n, hi, h0, hn, hgo, e3, e7, e8, rfl⟩ Q' hQ'
  by_cases hil : i < 256
  · have g1 : (i : Int) < 256 := by omega
    rw [show 256 - i = (256 - (i + 1)) + 1 by omega, Dfa.clsGo] at hgo
    simp -implicitDefEqProofs (disch := omega) only [go_sem, e7, e8, g1, decide_true, intsV]
    generalize hx : d.cls i = x at *
    by_cases h1 : x < 0
    · rw [if_pos (.inl h1)] at hgo
      simp -implicitDefEqProofs (disch := omega) only [go_sem, e3, h1, decide_true]
      exact hQ _ _ fun w' hs => ⟨by rw [← hgo], hs.anchor (by simp)⟩
    by_cases h2 : n < x
    · rw [if_pos (.inr h2)] at hgo
      simp -implicitDefEqProofs (disch := omega) only [go_sem, e3, h1, h2, decide_true, decide_false]
      exact hQ _ _ fun w' hs => ⟨by rw [← hgo], hs.anchor (by simp)⟩
    rw [if_neg (fun h => h.elim h1 h2)] at hgo
    by_cases h3 : x = n
    · rw [if_pos h3] at hgo
      simp -implicitDefEqProofs (disch := omega) only [go_sem, e3, e8, h1, h2, h3, decide_true, decide_false]
      subst h3
      simp -implicitDefEqProofs (disch := omega) only [go_sem, e3, e8, h1, decide_true, decide_false, Int.lt_irrefl]
      refine hQ' _ _ fun w1 hs => ⟨_, hs, ⟨i + 1, x + 1, by omega, by omega, by omega, hgo, ?_, ?_, ?_, rfl⟩, ?_⟩
      · (first | (simp -implicitDefEqProofs (disch := omega) only [go_sem]; done) | (simp -implicitDefEqProofs (disch := omega) only [go_sem]; rfl))
      · (first | (simp -implicitDefEqProofs (disch := omega) only [go_sem, e7]; done) | (simp -implicitDefEqProofs (disch := omega) only [go_sem, e7]; rfl))
      · (first | (simp -implicitDefEqProofs (disch := omega) only [go_sem]; done) | (simp -implicitDefEqProofs (disch := omega) only [go_sem]; rfl))
      · simp -implicitDefEqProofs (disch := omega) only [go_sem, e8]; omega
    · rw [if_neg h3] at hgo
      simp -implicitDefEqProofs (disch := omega) only [go_sem, e3, e8, h1, h2, h3, decide_true, decide_false]
      refine hQ' _ _ fun w1 hs => ⟨_, hs, ⟨i + 1, n, by omega, by omega, by omega, hgo, ?_, ?_, ?_, rfl⟩, ?_⟩
      · simp -implicitDefEqProofs (disch := omega) only [go_sem, e3]
      · (first | (simp -implicitDefEqProofs (disch := omega) only [go_sem, e7]; done) | (simp -implicitDefEqProofs (disch := omega) only [go_sem, e7]; rfl))
      · (first | (simp -implicitDefEqProofs (disch := omega) only [go_sem]; done) | (simp -implicitDefEqProofs (disch := omega) only [go_sem]; rfl))
      · simp -implicitDefEqProofs (disch := omega) only [go_sem, e8]; omega
  · have g1 : ¬ (i : Int) < 256 := by omega
    rw [show 256 - i = 0 by omega, Dfa.clsGo] at hgo
    simp -implicitDefEqProofs (disch := omega) only [go_sem, e3, e8, g1, decide_false]
    exact hQ _ _ fun w' hs => ⟨by rw [← hgo], hs.anchor (by simp)⟩

set_option maxRecDepth 20000 in
set_option maxHeartbeats 2000000 in
theorem dfa_right (d : Dfa.D) (w : World) (hm : Dfa.Mem w d) : Does Try.prog 51 #[d.val] w fun v w' => v = .bool (decide (Dfa.Right d)) ∧ Ext [] w w' := by
  unfold Dfa.D.val
  refine does (args := [.agg (List.toArray (Dfa.dC (Dfa.clsV d) (.slice d.a d.next.length d.c) (.slice d.ar d.rules.length d.cr)))]) Try.func51 rfl (by kernel_rfl) (by kernel_rfl) rfl ent_51 (Sat.start w []) ?_; intro QV hQ
  have hnl := hm.nlen
  have hul := hm.ulen
  simp only [maxLen] at hnl hul
  simp -implicitDefEqProofs (disch := omega) only [go_sem]
  refine RNew_intro fun g hg => ?_
  simp only [below_cons, below_nil, under_anchor, and_true] at hg
  simp -implicitDefEqProofs (disch := omega) only [go_sem]
  refine RCall_eq (dfa_classes d) ?_
  have bad : ∀ (p : Prop) [Decidable p], ¬ p → decide p = false := fun p _ h => decide_eq_false h
  by_cases h1 : (d.next.length : Int) < 1
  · simp -implicitDefEqProofs (disch := omega) only [go_sem, h1, decide_true]
    exact hQ _ _ fun w' hs => ⟨by rw [bad]; intro h; have := h.1; omega, hs.anchor (by simp)⟩
  by_cases h2 : (1000 : Int) < (d.next.length : Int)
  · simp -implicitDefEqProofs (disch := omega) only [go_sem, h1, h2, decide_true, decide_false]
    exact hQ _ _ fun w' hs => ⟨by rw [bad]; intro h; have := h.2.1; omega, hs.anchor (by simp)⟩
  by_cases h3 : (d.rules.length : Int) = (d.next.length : Int)
  rotate_left
  · simp -implicitDefEqProofs (disch := omega) only [go_sem, h1, h2, h3, decide_true, decide_false]
    exact hQ _ _ fun w' hs => ⟨by rw [bad]; intro h; have := h.2.2.1; omega, hs.anchor (by simp)⟩
  by_cases h4 : Dfa.classes d < 0
  · simp -implicitDefEqProofs (disch := omega) only [go_sem, h1, h2, h3, h4, decide_true, decide_false]
    exact hQ _ _ fun w' hs => ⟨by rw [bad]; intro h; have := h.2.2.2.1; omega, hs.anchor (by simp)⟩
  have h3' : d.rules.length = d.next.length := by omega
  simp -implicitDefEqProofs (disch := omega) only [go_sem, h1, h2, h3, h4, decide_true, decide_false]
  generalize hH : [Res.cells g 48 (List.toArray (Dfa.dC (Dfa.clsV d) (.slice d.a d.next.length d.c) (.slice d.ar d.rules.length d.cr))), .anchor w []] = H
  refine RLoop_intro (fun f h => ∃ (i : Nat), i ≤ d.next.length ∧ (∀ j, j < i → Dfa.RowOk d j) ∧ f 1 = .pointer (some ⟨g, 0, none⟩) ∧ f 3 = .int .i64 (d.next.length : Int) ∧ f 4 = .int .i64 (Dfa.classes d) ∧ f 30 = .int .i64 (d.next.length : Int) ∧ f 31 = .int .i64 (i : Int) ∧ h = H) (fun f _ => (d.next.length - ival (f 31)).toNat) ?_ ?_
  · exact ⟨0, by omega, by omega, by (first | (simp -implicitDefEqProofs (disch := omega) only [go_sem]; done) | (simp -implicitDefEqProofs (disch := omega) only [go_sem]; rfl)), by (first | (simp -implicitDefEqProofs (disch := omega) only [go_sem]; done) | (simp -implicitDefEqProofs (disch := omega) only [go_sem]; rfl)), by (first | (simp -implicitDefEqProofs (disch := omega) only [go_sem]; done) | (simp -implicitDefEqProofs (disch := omega) only [go_sem]; rfl)), by (first | (simp -implicitDefEqProofs (disch := omega) only [go_sem]; done) | (simp -implicitDefEqProofs (disch := omega) only [go_sem]; rfl)), by (first | (simp -implicitDefEqProofs (disch := omega) only [go_sem]; done) | (simp -implicitDefEqProofs (disch := omega) only [go_sem]; rfl)), rfl⟩
  rintro f h ⟨i, hi, hok, e1, e3, e4, e30, e31, rfl⟩ Q' hQ'
  by_cases hil : i < d.next.length
  rotate_left
  · have g1 : ¬ (i : Int) < (d.next.length : Int) := by omega
    subst hH
    simp -implicitDefEqProofs (disch := omega) only [go_sem, e30, e31, g1, decide_false]
    exact hQ _ _ fun w' hs => ⟨by rw [decide_eq_true]; exact ⟨by omega, by omega, h3', by omega, fun j hj => hok j (by omega)⟩, hs.anchor (by simp)⟩
  have g1 : (i : Int) < (d.next.length : Int) := by omega
  obtain ⟨bn, on, en, hbn, hcn⟩ := Dfa.next_at hm i hil
  obtain ⟨br, or_, er, hbr, hcr⟩ := Dfa.ints_at hm.rules i (by omega)
  have hrl := hm.rlen i
  simp only [maxLen] at hrl
  have hri : ∀ j, j < (Dfa.row d i).length → ∃ b o, d.ra i = some ⟨b, o, none⟩ ∧ b < w.heap.size ∧ w.cell? ⟨b, o + j, none⟩ = some (.int .i64 ((Dfa.row d i).getD j 0)) := fun j hj => Dfa.ints_at (hm.rows i hil) j hj
  generalize hrv : d.rules.getD i 0 = rv at *
  have hbadrow : ¬ Dfa.RowOk d i → ¬ Dfa.Right d := fun h hR => h (hR.2.2.2.2 i hil)
  subst hH
  rw [en, er]
  simp -implicitDefEqProofs (disch := omega) only [go_sem, e1, e3, e4, e30, e31, g1, hcn, hcr, decide_true]
  by_cases k1 : rv < -1
  · simp -implicitDefEqProofs (disch := omega) only [go_sem, e1, e3, e4, e30, e31, k1, decide_true]
    exact hQ _ _ fun w' hs => ⟨by rw [bad]; exact hbadrow fun h => by have := h.1; rw [hrv] at this; omega, hs.anchor (by simp)⟩
  by_cases k2 : 32 ≤ rv
  · simp -implicitDefEqProofs (disch := omega) only [go_sem, e1, e3, e4, e30, e31, k1, k2, hcr, decide_true, decide_false]
    exact hQ _ _ fun w' hs => ⟨by rw [bad]; exact hbadrow fun h => by have := h.2.1; rw [hrv] at this; omega, hs.anchor (by simp)⟩
  by_cases k3 : ((Dfa.row d i).length : Int) = Dfa.classes d
  rotate_left
  · simp -implicitDefEqProofs (disch := omega) only [go_sem, e1, e3, e4, e30, e31, k1, k2, k3, hcn, hcr, decide_true, decide_false]
    exact hQ _ _ fun w' hs => ⟨by rw [bad]; exact hbadrow fun h => k3 h.2.2.1, hs.anchor (by simp)⟩
  simp -implicitDefEqProofs (disch := omega) only [go_sem, e1, e3, e4, e30, e31, k1, k2, k3, hcn, hcr, decide_true, decide_false]
  generalize hH : [Res.cells g 48 (List.toArray (Dfa.dC (Dfa.clsV d) (.slice (some ⟨bn, on, none⟩) d.next.length d.c) (.slice (some ⟨br, or_, none⟩) d.rules.length d.cr))), .anchor w []] = H at *
  refine RLoop_intro (fun f h => ∃ (j : Nat), j ≤ (Dfa.row d i).length ∧ (∀ k, k < j → 0 ≤ (Dfa.row d i).getD k 0 ∧ (Dfa.row d i).getD k 0 < d.next.length) ∧ f 1 = .pointer (some ⟨g, 0, none⟩) ∧ f 3 = .int .i64 (d.next.length : Int) ∧ f 4 = .int .i64 (Dfa.classes d) ∧ f 30 = .int .i64 (d.next.length : Int) ∧ f 31 = .int .i64 (i : Int) ∧
    f 62 = .slice (d.ra i) (Dfa.row d i).length (d.rc i) ∧ f 63 = .int .i64 (Dfa.classes d) ∧ f 64 = .int .i64 (j : Int) ∧ h = H) (fun f _ => ((Dfa.row d i).length - ival (f 64)).toNat) ?_ ?_
  · exact ⟨0, by omega, by omega, by (first | (simp -implicitDefEqProofs (disch := omega) only [go_sem, e1, e3, e4, e30, e31]; done) | (simp -implicitDefEqProofs (disch := omega) only [go_sem, e1, e3, e4, e30, e31]; rfl)), by (first | (simp -implicitDefEqProofs (disch := omega) only [go_sem, e1, e3, e4, e30, e31]; done) | (simp -implicitDefEqProofs (disch := omega) only [go_sem, e1, e3, e4, e30, e31]; rfl)), by (first | (simp -implicitDefEqProofs (disch := omega) only [go_sem, e1, e3, e4, e30, e31]; done) | (simp -implicitDefEqProofs (disch := omega) only [go_sem, e1, e3, e4, e30, e31]; rfl)), by (first | (simp -implicitDefEqProofs (disch := omega) only [go_sem, e1, e3, e4, e30, e31]; done) | (simp -implicitDefEqProofs (disch := omega) only [go_sem, e1, e3, e4, e30, e31]; rfl)), by (first | (simp -implicitDefEqProofs (disch := omega) only [go_sem, e1, e3, e4, e30, e31]; done) | (simp -implicitDefEqProofs (disch := omega) only [go_sem, e1, e3, e4, e30, e31]; rfl)), by (first | (simp -implicitDefEqProofs (disch := omega) only [go_sem]; done) | (simp -implicitDefEqProofs (disch := omega) only [go_sem]; rfl)), by (first | (simp -implicitDefEqProofs (disch := omega) only [go_sem]; done) | (simp -implicitDefEqProofs (disch := omega) only [go_sem]; rfl)), by (first | (simp -implicitDefEqProofs (disch := omega) only [go_sem]; done) | (simp -implicitDefEqProofs (disch := omega) only [go_sem]; rfl)), rfl⟩
  rintro f h ⟨j, hj, hjok, q1, q3, q4, q30, q31, q62, q63, q64, rfl⟩ Q'' hQ''
  by_cases hjl : j < (Dfa.row d i).length
  · have g2 : (j : Int) < Dfa.classes d := by omega
    obtain ⟨b2, o2, e2, hb2, hc2⟩ := hri j hjl
    rw [e2] at q62
    generalize hxv : (Dfa.row d i).getD j 0 = x at *
    subst hH
    simp -implicitDefEqProofs (disch := omega) only [go_sem, q1, q3, q4, q30, q31, q62, q63, q64, g2, hc2, decide_true]
    by_cases m1 : x < 0
    · simp -implicitDefEqProofs (disch := omega) only [go_sem, q1, q3, q4, q30, q31, q62, q63, q64, m1, decide_true]
      exact hQ _ _ fun w' hs => ⟨by rw [bad]; exact hbadrow fun h => by have := (h.2.2.2 j hjl).1; rw [hxv] at this; omega, hs.anchor (by simp)⟩
    by_cases m2 : (d.next.length : Int) ≤ x
    · simp -implicitDefEqProofs (disch := omega) only [go_sem, q1, q3, q4, q30, q31, q62, q63, q64, m1, m2, decide_true, decide_false]
      exact hQ _ _ fun w' hs => ⟨by rw [bad]; exact hbadrow fun h => by have := (h.2.2.2 j hjl).2; rw [hxv] at this; omega, hs.anchor (by simp)⟩
    simp -implicitDefEqProofs (disch := omega) only [go_sem, q1, q3, q4, q30, q31, q62, q63, q64, m1, m2, decide_true, decide_false]
    refine hQ'' _ _ _ (fun _ hs => hs) ⟨j + 1, by omega, fun k hk => ?_, ?_, ?_, ?_, ?_, ?_, ?_, ?_, ?_, rfl⟩ ?_
    · by_cases hkj : k = j
      · subst hkj; rw [hxv]; omega
      · exact hjok k (by omega)
    · (first | (simp -implicitDefEqProofs (disch := omega) only [go_sem, q1, q3, q4, q30, q31, q62, q63, q64]; done) | (simp -implicitDefEqProofs (disch := omega) only [go_sem, q1, q3, q4, q30, q31, q62, q63, q64]; rfl))
    · (first | (simp -implicitDefEqProofs (disch := omega) only [go_sem, q1, q3, q4, q30, q31, q62, q63, q64]; done) | (simp -implicitDefEqProofs (disch := omega) only [go_sem, q1, q3, q4, q30, q31, q62, q63, q64]; rfl))
    · (first | (simp -implicitDefEqProofs (disch := omega) only [go_sem, q1, q3, q4, q30, q31, q62, q63, q64]; done) | (simp -implicitDefEqProofs (disch := omega) only [go_sem, q1, q3, q4, q30, q31, q62, q63, q64]; rfl))
    · (first | (simp -implicitDefEqProofs (disch := omega) only [go_sem, q1, q3, q4, q30, q31, q62, q63, q64]; done) | (simp -implicitDefEqProofs (disch := omega) only [go_sem, q1, q3, q4, q30, q31, q62, q63, q64]; rfl))
    · (first | (simp -implicitDefEqProofs (disch := omega) only [go_sem, q1, q3, q4, q30, q31, q62, q63, q64]; done) | (simp -implicitDefEqProofs (disch := omega) only [go_sem, q1, q3, q4, q30, q31, q62, q63, q64]; rfl))
    · (first | (simp -implicitDefEqProofs (disch := omega) only [go_sem, q1, q3, q4, q30, q31, q62, q63, q64, e2]; done) | (simp -implicitDefEqProofs (disch := omega) only [go_sem, q1, q3, q4, q30, q31, q62, q63, q64, e2]; rfl))
    · (first | (simp -implicitDefEqProofs (disch := omega) only [go_sem, q1, q3, q4, q30, q31, q62, q63, q64]; done) | (simp -implicitDefEqProofs (disch := omega) only [go_sem, q1, q3, q4, q30, q31, q62, q63, q64]; rfl))
    · (first | (simp -implicitDefEqProofs (disch := omega) only [go_sem, q1, q3, q4, q30, q31, q62, q63, q64]; done) | (simp -implicitDefEqProofs (disch := omega) only [go_sem, q1, q3, q4, q30, q31, q62, q63, q64]; rfl))
    · simp -implicitDefEqProofs (disch := omega) only [go_sem, q1, q3, q4, q30, q31, q62, q63, q64]; omega
  · have g2 : ¬ (j : Int) < Dfa.classes d := by omega
    subst hH
    simp -implicitDefEqProofs (disch := omega) only [go_sem, q1, q3, q4, q30, q31, q62, q63, q64, g2, decide_false]
    refine hQ' _ _ _ (fun _ hs => hs) ⟨i + 1, by omega, fun k hk => ?_, ?_, ?_, ?_, ?_, ?_, by rw [en, er]⟩ ?_
    · by_cases hki : k = i
      · subst hki; exact ⟨by rw [hrv]; omega, by rw [hrv]; omega, k3, fun k hk => hjok k (by omega)⟩
      · exact hok k (by omega)
    · (first | (simp -implicitDefEqProofs (disch := omega) only [go_sem, q1, q3, q4, q30, q31, q62, q63, q64]; done) | (simp -implicitDefEqProofs (disch := omega) only [go_sem, q1, q3, q4, q30, q31, q62, q63, q64]; rfl))
    · (first | (simp -implicitDefEqProofs (disch := omega) only [go_sem, q1, q3, q4, q30, q31, q62, q63, q64]; done) | (simp -implicitDefEqProofs (disch := omega) only [go_sem, q1, q3, q4, q30, q31, q62, q63, q64]; rfl))
    · (first | (simp -implicitDefEqProofs (disch := omega) only [go_sem, q1, q3, q4, q30, q31, q62, q63, q64]; done) | (simp -implicitDefEqProofs (disch := omega) only [go_sem, q1, q3, q4, q30, q31, q62, q63, q64]; rfl))
    · (first | (simp -implicitDefEqProofs (disch := omega) only [go_sem, q1, q3, q4, q30, q31, q62, q63, q64]; done) | (simp -implicitDefEqProofs (disch := omega) only [go_sem, q1, q3, q4, q30, q31, q62, q63, q64]; rfl))
    · (first | (simp -implicitDefEqProofs (disch := omega) only [go_sem, q1, q3, q4, q30, q31, q62, q63, q64]; done) | (simp -implicitDefEqProofs (disch := omega) only [go_sem, q1, q3, q4, q30, q31, q62, q63, q64]; rfl))
    · simp -implicitDefEqProofs (disch := omega) only [go_sem, q1, q3, q4, q30, q31, q62, q63, q64, e31]; omega
end Go.Proofs.Ytldidoaagijnhaa
