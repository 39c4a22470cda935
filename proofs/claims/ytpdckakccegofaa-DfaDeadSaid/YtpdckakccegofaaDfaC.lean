/- dfa and its reference: the walks: where bytes lead. -/
import Derived.Test.YtpdckakccegofaaDfaB
import Derived.Test.YtpdckakccegofaaCount
namespace Go.Proofs.Ytpdckakccegofaa
set_option linter.unusedSimpArgs false
set_option linter.unusedVariables false
open H

theorem dfa_cell {w : World} {d : Dfa.D} (hm : Dfa.Mem w d) {s : Int} {k : Nat} (h0 : 0 ≤ s) (h1 : s < d.next.length) (hk : k < (Dfa.row d s.toNat).length) : ∃ b o b2 o2, d.a = some ⟨b, o, none⟩ ∧ b < w.heap.size ∧ w.cell? ⟨b, o + s.toNat, none⟩ = some (.slice (some ⟨b2, o2, none⟩) (Dfa.row d s.toNat).length (d.rc s.toNat)) ∧ b2 < w.heap.size ∧ w.cell? ⟨b2, o2 + k, none⟩ = some (.int .i64 ((Dfa.row d s.toNat).getD k 0)) := by
  obtain ⟨b, o, e, hb, hc⟩ := Dfa.next_at hm s.toNat (by omega)
  obtain ⟨b2, o2, e2, hb2, hc2⟩ := Dfa.ints_at (hm.rows s.toNat (by omega)) k hk
  rw [e2] at hc
  exact ⟨b, o, b2, o2, e, hb, hc, hb2, hc2⟩

set_option maxRecDepth 20000 in
set_option maxHeartbeats 2000000 in
theorem dfa_step (d : Dfa.D) (s : Int) (b : UInt8) (w : World) (hm : Dfa.Mem w d) : Does Try.prog 32 #[d.val, .int .i64 s, byte b] w fun v w' => v = .int .i64 (Dfa.step1 d s b) ∧ Ext [] w w' := by
  unfold Dfa.D.val
  refine does (args := [.agg (List.toArray (Dfa.dC (Dfa.clsV d) (.slice d.a d.next.length d.c) (.slice d.ar d.rules.length d.cr))), .int .i64 s, byte b]) Try.func32 rfl (by kernel_rfl) (by kernel_rfl) rfl ent_32 (Sat.start w []) ?_; intro QV hQ
  have hnl := hm.nlen
  simp only [maxLen] at hnl
  simp -implicitDefEqProofs (disch := omega) only [go_sem]
  refine RNew_intro fun g hg => ?_
  simp only [below_cons, below_nil, under_anchor, and_true] at hg
  simp -implicitDefEqProofs (disch := omega) only [go_sem]
  refine RCall_eqS (fun w1 hs => dfa_right d w1 (hm.keep (hs.mem (.anchor w []) (by simp)))) ?_
  by_cases h1 : Dfa.Right d
  rotate_left
  · simp -implicitDefEqProofs (disch := omega) only [go_sem, h1, decide_false]
    exact hQ _ _ fun w' hs => ⟨by unfold Dfa.step1; rw [if_pos (.inl h1)], hs.anchor (by simp)⟩
  by_cases h2 : s < 0
  · simp -implicitDefEqProofs (disch := omega) only [go_sem, h1, h2, decide_true, decide_false]
    exact hQ _ _ fun w' hs => ⟨by unfold Dfa.step1; rw [if_pos (.inr (.inl h2))], hs.anchor (by simp)⟩
  by_cases h3 : (d.next.length : Int) ≤ s
  · simp -implicitDefEqProofs (disch := omega) only [go_sem, h1, h2, h3, decide_true, decide_false]
    exact hQ _ _ fun w' hs => ⟨by unfold Dfa.step1; rw [if_pos (.inr (.inr h3))], hs.anchor (by simp)⟩
  have hv : Dfa.step1 d s b = Dfa.step d s b := by unfold Dfa.step1; rw [if_neg]; rintro (h | h | h); exact h h1; exact h2 h; exact h3 h
  rw [hv] at hQ
  obtain ⟨k1, k2, k3, k4⟩ := Dfa.step_ok h1 (s := s) (by omega) (by omega) b
  obtain ⟨b1, o1, b2, o2, e, hb, hc, hb2, hc2⟩ := dfa_cell hm (by omega) (by omega) k1
  have hb8 := b.toNat_lt
  have hst : (Dfa.row d s.toNat).getD (d.cls b.toNat).toNat 0 = Dfa.step d s b := rfl
  rw [hst] at hc2
  rw [e]
  have hrl : d.cls b.toNat < ((Dfa.row d s.toNat).length : Int) := by omega
  generalize Dfa.step d s b = r at *
  simp -implicitDefEqProofs (disch := omega) only [go_sem, h1, h2, h3, decide_true, decide_false]
  refine RDraw_seg (by kernel_rfl) (by kernel_rfl) 12 rfl ?_
  refine RS_det (by kernel_rfl) ?_
  repeat (first | refine ToO_step (fun Q hq => by (simp -implicitDefEqProofs (disch := omega) only [go_sem, hc, hc2, intsV]; exact hq)) ?_ | refine ToO_guard (by (simp -implicitDefEqProofs only [go_sem, hc, hc2, intsV]; first | done | fail)) (fun Q hq => by (simp -implicitDefEqProofs (disch := omega) only [go_sem, hc, hc2, intsV]; exact hq)) ?_ | refine ToO_skip (.inl (by (simp -implicitDefEqProofs only [go_sem, hc, hc2, intsV]; first | done | fail))) ?_ | refine ToO_skip (.inr (by (simp -implicitDefEqProofs only [go_sem, hc, hc2, intsV]; first | done | fail))) ?_)
  refine ToO_nil ?_
  simp -implicitDefEqProofs (disch := omega) only [go_sem]
  exact hQ _ _ fun w' hs => ⟨rfl, hs.anchor (by simp)⟩

set_option maxRecDepth 20000 in
set_option maxHeartbeats 2000000 in
theorem rdfa_step (d : Dfa.D) (s : Int) (b : UInt8) (w : World) (hm : Dfa.Mem w d) : Does Try.prog 33 #[d.val, .int .i64 s, byte b] w fun v w' => v = .int .i64 (Dfa.step1 d s b) ∧ Ext [] w w' := by
  unfold Dfa.D.val
  refine does (args := [.agg (List.toArray (Dfa.dC (Dfa.clsV d) (.slice d.a d.next.length d.c) (.slice d.ar d.rules.length d.cr))), .int .i64 s, byte b]) Try.func33 rfl (by kernel_rfl) (by kernel_rfl) rfl ent_33 (Sat.start w []) ?_; intro QV hQ
  have hnl := hm.nlen
  simp only [maxLen] at hnl
  simp -implicitDefEqProofs (disch := omega) only [go_sem]
  refine RNew_intro fun g hg => ?_
  simp only [below_cons, below_nil, under_anchor, and_true] at hg
  simp -implicitDefEqProofs (disch := omega) only [go_sem]
  refine RCall_eqS (fun w1 hs => rdfa_right d w1 (hm.keep (hs.mem (.anchor w []) (by simp)))) ?_
  by_cases h1 : Dfa.Right d
  rotate_left
  · simp -implicitDefEqProofs (disch := omega) only [go_sem, h1, decide_false]
    exact hQ _ _ fun w' hs => ⟨by unfold Dfa.step1; rw [if_pos (.inl h1)], hs.anchor (by simp)⟩
  by_cases h2 : s < 0
  · simp -implicitDefEqProofs (disch := omega) only [go_sem, h1, h2, decide_true, decide_false]
    exact hQ _ _ fun w' hs => ⟨by unfold Dfa.step1; rw [if_pos (.inr (.inl h2))], hs.anchor (by simp)⟩
  by_cases h3 : (d.next.length : Int) ≤ s
  · simp -implicitDefEqProofs (disch := omega) only [go_sem, h1, h2, h3, decide_true, decide_false]
    exact hQ _ _ fun w' hs => ⟨by unfold Dfa.step1; rw [if_pos (.inr (.inr h3))], hs.anchor (by simp)⟩
  have hv : Dfa.step1 d s b = Dfa.step d s b := by unfold Dfa.step1; rw [if_neg]; rintro (h | h | h); exact h h1; exact h2 h; exact h3 h
  rw [hv] at hQ
  obtain ⟨k1, k2, k3, k4⟩ := Dfa.step_ok h1 (s := s) (by omega) (by omega) b
  obtain ⟨b1, o1, b2, o2, e, hb, hc, hb2, hc2⟩ := dfa_cell hm (by omega) (by omega) k1
  have hb8 := b.toNat_lt
  have hst : (Dfa.row d s.toNat).getD (d.cls b.toNat).toNat 0 = Dfa.step d s b := rfl
  rw [hst] at hc2
  rw [e]
  have hrl : d.cls b.toNat < ((Dfa.row d s.toNat).length : Int) := by omega
  generalize Dfa.step d s b = r at *
  simp -implicitDefEqProofs (disch := omega) only [go_sem, h1, h2, h3, decide_true, decide_false]
  refine RDraw_seg (by kernel_rfl) (by kernel_rfl) 12 rfl ?_
  refine RS_det (by kernel_rfl) ?_
  repeat (first | refine ToO_step (fun Q hq => by (simp -implicitDefEqProofs (disch := omega) only [go_sem, hc, hc2, intsV]; exact hq)) ?_ | refine ToO_guard (by (simp -implicitDefEqProofs only [go_sem, hc, hc2, intsV]; first | done | fail)) (fun Q hq => by (simp -implicitDefEqProofs (disch := omega) only [go_sem, hc, hc2, intsV]; exact hq)) ?_ | refine ToO_skip (.inl (by (simp -implicitDefEqProofs only [go_sem, hc, hc2, intsV]; first | done | fail))) ?_ | refine ToO_skip (.inr (by (simp -implicitDefEqProofs only [go_sem, hc, hc2, intsV]; first | done | fail))) ?_)
  refine ToO_nil ?_
  simp -implicitDefEqProofs (disch := omega) only [go_sem]
  exact hQ _ _ fun w' hs => ⟨rfl, hs.anchor (by simp)⟩

set_option maxRecDepth 20000 in
set_option maxHeartbeats 2000000 in
theorem dfa_run (d : Dfa.D) (t : List UInt8) (ht : t.length ≤ 9223372036854775807) (w : World) (hm : Dfa.Mem w d) : Does Try.prog 34 #[d.val, str t] w fun v w' => v = .int .i64 (Dfa.run d t) ∧ Ext [] w w' := by
  unfold Dfa.D.val
  refine does (args := [.agg (List.toArray (Dfa.dC (Dfa.clsV d) (.slice d.a d.next.length d.c) (.slice d.ar d.rules.length d.cr))), str t]) Try.func34 rfl (by kernel_rfl) (by kernel_rfl) rfl ent_34 (Sat.start w []) ?_; intro QV hQ
  have hnl := hm.nlen
  simp only [maxLen] at hnl
  simp -implicitDefEqProofs (disch := omega) only [go_sem]
  refine RNew_intro fun g hg => ?_
  simp only [below_cons, below_nil, under_anchor, and_true] at hg
  simp -implicitDefEqProofs (disch := omega) only [go_sem]
  refine RCall_eqS (fun w1 hs => dfa_right d w1 (hm.keep (hs.mem (.anchor w []) (by simp)))) ?_
  by_cases h1 : Dfa.Right d
  rotate_left
  · simp -implicitDefEqProofs (disch := omega) only [go_sem, h1, decide_false]
    exact hQ _ _ fun w' hs => ⟨by unfold Dfa.run; rw [if_neg h1], hs.anchor (by simp)⟩
  have hv := (Dfa.run_ok h1 t).1
  rw [hv] at hQ
  simp -implicitDefEqProofs (disch := omega) only [go_sem, h1, decide_true]
  generalize hH : [Res.cells g 48 (List.toArray (Dfa.dC (Dfa.clsV d) (.slice d.a d.next.length d.c) (.slice d.ar d.rules.length d.cr))), .anchor w []] = H at *
  refine RLoop_intro (fun f h => ∃ (i : Nat), i ≤ t.length ∧ f 1 = str t ∧ f 2 = .pointer (some ⟨g, 0, none⟩) ∧ f 5 = .int .i64 (Dfa.runFrom d 0 (t.take i)) ∧ f 11 = .int .i64 (t.length : Int) ∧ f 12 = .int .i64 (i : Int) ∧ h = H) (fun f _ => (t.length - ival (f 12)).toNat) ?_ ?_
  · exact ⟨0, by omega, by (first | (simp -implicitDefEqProofs (disch := omega) only [go_sem]; done) | (simp -implicitDefEqProofs (disch := omega) only [go_sem]; rfl)), by (first | (simp -implicitDefEqProofs (disch := omega) only [go_sem]; done) | (simp -implicitDefEqProofs (disch := omega) only [go_sem]; rfl)), by (first | (simp -implicitDefEqProofs (disch := omega) only [go_sem]; done) | (simp -implicitDefEqProofs (disch := omega) only [go_sem]; rfl)), by (first | (simp -implicitDefEqProofs (disch := omega) only [go_sem]; done) | (simp -implicitDefEqProofs (disch := omega) only [go_sem]; rfl)), by (first | (simp -implicitDefEqProofs (disch := omega) only [go_sem]; done) | (simp -implicitDefEqProofs (disch := omega) only [go_sem]; rfl)), rfl⟩
  rintro f h ⟨i, hi, e1, e2, e5, e11, e12, rfl⟩ Q' hQ'
  subst hH
  by_cases hil : i < t.length
  · have g1 : (i : Int) < (t.length : Int) := by omega
    have hro := Dfa.runFrom_ok h1 (t.take i) 0 (by omega) (by have := h1.1; omega)
    have hnext := Dfa.runFrom_take (d := d) (s := 0) hil
    generalize Dfa.runFrom d 0 (t.take i) = s at *
    generalize hbv : t.getD i 0 = b at *
    obtain ⟨k1, k2, k3, k4⟩ := Dfa.step_ok h1 (s := s) hro.1 hro.2 b
    obtain ⟨b1, o1, b2, o2, e, hb, hc, hb2, hc2⟩ := dfa_cell hm hro.1 hro.2 k1
    have hb8 := b.toNat_lt
    have hst : (Dfa.row d s.toNat).getD (d.cls b.toNat).toNat 0 = Dfa.step d s b := rfl
    rw [hst] at hc2
    have hrl : d.cls b.toNat < ((Dfa.row d s.toNat).length : Int) := by omega
    generalize Dfa.step d s b = r at *
    rw [e]
    simp -implicitDefEqProofs (disch := omega) only [go_sem, e1, e2, e5, e11, e12, g1, decide_true]
    refine RDraw_seg (by kernel_rfl) (by kernel_rfl) 14 rfl ?_
    refine RS_det (by kernel_rfl) ?_
    repeat (first | refine ToO_step (fun Q hq => by (simp -implicitDefEqProofs (disch := omega) only [go_sem, e1, e2, e5, e11, e12, hbv, hc, hc2, intsV]; exact hq)) ?_ | refine ToO_guard (by (simp -implicitDefEqProofs only [go_sem, e1, e2, e5, e11, e12, hbv, hc, hc2, intsV]; first | done | fail)) (fun Q hq => by (simp -implicitDefEqProofs (disch := omega) only [go_sem, e1, e2, e5, e11, e12, hbv, hc, hc2, intsV]; exact hq)) ?_ | refine ToO_skip (.inl (by (simp -implicitDefEqProofs only [go_sem, e1, e2, e5, e11, e12, hbv, hc, hc2, intsV]; first | done | fail))) ?_ | refine ToO_skip (.inr (by (simp -implicitDefEqProofs only [go_sem, e1, e2, e5, e11, e12, hbv, hc, hc2, intsV]; first | done | fail))) ?_)
    refine ToO_nil ?_
    simp -implicitDefEqProofs (disch := omega) only [go_sem, e1, e2, e5, e11, e12]
    refine hQ' _ _ _ (fun _ hs => hs) ⟨i + 1, by omega, ?_, ?_, ?_, ?_, ?_, by rw [e]⟩ ?_
    · (first | (simp -implicitDefEqProofs (disch := omega) only [go_sem, e1, e2, e5, e11, e12]; done) | (simp -implicitDefEqProofs (disch := omega) only [go_sem, e1, e2, e5, e11, e12]; rfl))
    · (first | (simp -implicitDefEqProofs (disch := omega) only [go_sem, e1, e2, e5, e11, e12]; done) | (simp -implicitDefEqProofs (disch := omega) only [go_sem, e1, e2, e5, e11, e12]; rfl))
    · rw [hnext]; (first | (simp -implicitDefEqProofs (disch := omega) only [go_sem, e1, e2, e5, e11, e12]; done) | (simp -implicitDefEqProofs (disch := omega) only [go_sem, e1, e2, e5, e11, e12]; rfl))
    · (first | (simp -implicitDefEqProofs (disch := omega) only [go_sem, e1, e2, e5, e11, e12]; done) | (simp -implicitDefEqProofs (disch := omega) only [go_sem, e1, e2, e5, e11, e12]; rfl))
    · (first | (simp -implicitDefEqProofs (disch := omega) only [go_sem, e1, e2, e5, e11, e12]; done) | (simp -implicitDefEqProofs (disch := omega) only [go_sem, e1, e2, e5, e11, e12]; rfl))
    · simp -implicitDefEqProofs (disch := omega) only [go_sem, e1, e2, e5, e11, e12]; omega
  · have g1 : ¬ (i : Int) < (t.length : Int) := by omega
    rw [List.take_of_length_le (by omega)] at e5
    simp -implicitDefEqProofs (disch := omega) only [go_sem, e1, e2, e5, e11, e12, g1, decide_false]
    exact hQ _ _ fun w' hs => ⟨rfl, hs.anchor (by simp)⟩

set_option maxRecDepth 20000 in
set_option maxHeartbeats 2000000 in
theorem rdfa_run (d : Dfa.D) (t : List UInt8) (ht : t.length ≤ 9223372036854775807) (w : World) (hm : Dfa.Mem w d) : Does Try.prog 35 #[d.val, str t] w fun v w' => v = .int .i64 (Dfa.run d t) ∧ Ext [] w w' := by
  unfold Dfa.D.val
  refine does (args := [.agg (List.toArray (Dfa.dC (Dfa.clsV d) (.slice d.a d.next.length d.c) (.slice d.ar d.rules.length d.cr))), str t]) Try.func35 rfl (by kernel_rfl) (by kernel_rfl) rfl ent_35 (Sat.start w []) ?_; intro QV hQ
  have hnl := hm.nlen
  simp only [maxLen] at hnl
  simp -implicitDefEqProofs (disch := omega) only [go_sem]
  refine RNew_intro fun g hg => ?_
  simp only [below_cons, below_nil, under_anchor, and_true] at hg
  simp -implicitDefEqProofs (disch := omega) only [go_sem]
  refine RCall_eqS (fun w1 hs => rdfa_right d w1 (hm.keep (hs.mem (.anchor w []) (by simp)))) ?_
  by_cases h1 : Dfa.Right d
  rotate_left
  · simp -implicitDefEqProofs (disch := omega) only [go_sem, h1, decide_false]
    exact hQ _ _ fun w' hs => ⟨by unfold Dfa.run; rw [if_neg h1], hs.anchor (by simp)⟩
  have hv := (Dfa.run_ok h1 t).1
  rw [hv] at hQ
  simp -implicitDefEqProofs (disch := omega) only [go_sem, h1, decide_true]
  generalize hH : [Res.cells g 48 (List.toArray (Dfa.dC (Dfa.clsV d) (.slice d.a d.next.length d.c) (.slice d.ar d.rules.length d.cr))), .anchor w []] = H at *
  refine RLoop_intro (fun f h => ∃ (i : Nat), i ≤ t.length ∧ f 1 = str t ∧ f 2 = .pointer (some ⟨g, 0, none⟩) ∧ f 5 = .int .i64 (Dfa.runFrom d 0 (t.take i)) ∧ f 6 = .int .i64 (i : Int) ∧ h = H) (fun f _ => (t.length - ival (f 6)).toNat) ?_ ?_
  · exact ⟨0, by omega, by (first | (simp -implicitDefEqProofs (disch := omega) only [go_sem]; done) | (simp -implicitDefEqProofs (disch := omega) only [go_sem]; rfl)), by (first | (simp -implicitDefEqProofs (disch := omega) only [go_sem]; done) | (simp -implicitDefEqProofs (disch := omega) only [go_sem]; rfl)), by (first | (simp -implicitDefEqProofs (disch := omega) only [go_sem]; done) | (simp -implicitDefEqProofs (disch := omega) only [go_sem]; rfl)), by (first | (simp -implicitDefEqProofs (disch := omega) only [go_sem]; done) | (simp -implicitDefEqProofs (disch := omega) only [go_sem]; rfl)), rfl⟩
  rintro f h ⟨i, hi, e1, e2, e5, e6, rfl⟩ Q' hQ'
  subst hH
  by_cases hil : i < t.length
  · have g1 : (i : Int) < (t.length : Int) := by omega
    have hro := Dfa.runFrom_ok h1 (t.take i) 0 (by omega) (by have := h1.1; omega)
    have hnext := Dfa.runFrom_take (d := d) (s := 0) hil
    generalize Dfa.runFrom d 0 (t.take i) = s at *
    generalize hbv : t.getD i 0 = b at *
    obtain ⟨k1, k2, k3, k4⟩ := Dfa.step_ok h1 (s := s) hro.1 hro.2 b
    obtain ⟨b1, o1, b2, o2, e, hb, hc, hb2, hc2⟩ := dfa_cell hm hro.1 hro.2 k1
    have hb8 := b.toNat_lt
    have hst : (Dfa.row d s.toNat).getD (d.cls b.toNat).toNat 0 = Dfa.step d s b := rfl
    rw [hst] at hc2
    have hrl : d.cls b.toNat < ((Dfa.row d s.toNat).length : Int) := by omega
    generalize Dfa.step d s b = r at *
    rw [e]
    simp -implicitDefEqProofs (disch := omega) only [go_sem, e1, e2, e5, e6, g1, decide_true]
    refine RDraw_seg (by kernel_rfl) (by kernel_rfl) 14 rfl ?_
    refine RS_det (by kernel_rfl) ?_
    repeat (first | refine ToO_step (fun Q hq => by (simp -implicitDefEqProofs (disch := omega) only [go_sem, e1, e2, e5, e6, hbv, hc, hc2, intsV]; exact hq)) ?_ | refine ToO_guard (by (simp -implicitDefEqProofs only [go_sem, e1, e2, e5, e6, hbv, hc, hc2, intsV]; first | done | fail)) (fun Q hq => by (simp -implicitDefEqProofs (disch := omega) only [go_sem, e1, e2, e5, e6, hbv, hc, hc2, intsV]; exact hq)) ?_ | refine ToO_skip (.inl (by (simp -implicitDefEqProofs only [go_sem, e1, e2, e5, e6, hbv, hc, hc2, intsV]; first | done | fail))) ?_ | refine ToO_skip (.inr (by (simp -implicitDefEqProofs only [go_sem, e1, e2, e5, e6, hbv, hc, hc2, intsV]; first | done | fail))) ?_)
    refine ToO_nil ?_
    simp -implicitDefEqProofs (disch := omega) only [go_sem, e1, e2, e5, e6]
    refine hQ' _ _ _ (fun _ hs => hs) ⟨i + 1, by omega, ?_, ?_, ?_, ?_, by rw [e]⟩ ?_
    · (first | (simp -implicitDefEqProofs (disch := omega) only [go_sem, e1, e2, e5, e6]; done) | (simp -implicitDefEqProofs (disch := omega) only [go_sem, e1, e2, e5, e6]; rfl))
    · (first | (simp -implicitDefEqProofs (disch := omega) only [go_sem, e1, e2, e5, e6]; done) | (simp -implicitDefEqProofs (disch := omega) only [go_sem, e1, e2, e5, e6]; rfl))
    · rw [hnext]; (first | (simp -implicitDefEqProofs (disch := omega) only [go_sem, e1, e2, e5, e6]; done) | (simp -implicitDefEqProofs (disch := omega) only [go_sem, e1, e2, e5, e6]; rfl))
    · (first | (simp -implicitDefEqProofs (disch := omega) only [go_sem, e1, e2, e5, e6]; done) | (simp -implicitDefEqProofs (disch := omega) only [go_sem, e1, e2, e5, e6]; rfl))
    · simp -implicitDefEqProofs (disch := omega) only [go_sem, e1, e2, e5, e6]; omega
  · have g1 : ¬ (i : Int) < (t.length : Int) := by omega
    rw [List.take_of_length_le (by omega)] at e5
    simp -implicitDefEqProofs (disch := omega) only [go_sem, e1, e2, e5, e6, g1, decide_false]
    exact hQ _ _ fun w' hs => ⟨rfl, hs.anchor (by simp)⟩

set_option maxRecDepth 20000 in
set_option maxHeartbeats 2000000 in
theorem dfa_after (d : Dfa.D) (t : List UInt8) (ht : t.length ≤ 9223372036854775807) (w : World) (hm : Dfa.Mem w d) : Does Try.prog 36 #[d.val, str t] w fun v w' => v = .int .i64 (Dfa.after d t) ∧ Ext [] w w' := by
  unfold Dfa.D.val
  refine does (args := [.agg (List.toArray (Dfa.dC (Dfa.clsV d) (.slice d.a d.next.length d.c) (.slice d.ar d.rules.length d.cr))), str t]) Try.func36 rfl (by kernel_rfl) (by kernel_rfl) rfl ent_36 (Sat.start w []) ?_; intro QV hQ
  have hnl := hm.nlen
  simp only [maxLen] at hnl
  simp -implicitDefEqProofs (disch := omega) only [go_sem]
  refine RNew_intro fun g hg => ?_
  simp only [below_cons, below_nil, under_anchor, and_true] at hg
  simp -implicitDefEqProofs (disch := omega) only [go_sem]
  refine RCall_eqS (fun w1 hs => dfa_run d t ht w1 (hm.keep (hs.mem (.anchor w []) (by simp)))) ?_
  by_cases h1 : Dfa.Right d
  rotate_left
  · have hv : Dfa.run d t = -1 := by unfold Dfa.run; rw [if_neg h1]
    have hv2 : Dfa.after d t = -1 := by unfold Dfa.after; rw [if_neg h1]
    rw [hv2] at hQ
    rw [hv]
    simp -implicitDefEqProofs (disch := omega) only [go_sem, decide_true]
    exact hQ _ _ fun w' hs => ⟨rfl, hs.anchor (by simp)⟩
  obtain ⟨_, k1, k2⟩ := Dfa.run_ok h1 t
  have hv2 : Dfa.after d t = d.rules.getD (Dfa.run d t).toNat 0 := by unfold Dfa.after; rw [if_pos h1]
  rw [hv2] at hQ
  obtain ⟨b, o, e, hb, hc⟩ := Dfa.ints_at hm.rules (Dfa.run d t).toNat (by have := h1.2.2.1; omega)
  have hrl := h1.2.2.1
  generalize Dfa.run d t = s at *
  have h2 : ¬ s < 0 := by omega
  rw [e]
  simp -implicitDefEqProofs (disch := omega) only [go_sem, h2, decide_false, hc]
  exact hQ _ _ fun w' hs => ⟨rfl, hs.anchor (by simp)⟩

set_option maxRecDepth 20000 in
set_option maxHeartbeats 2000000 in
theorem rdfa_after (d : Dfa.D) (t : List UInt8) (ht : t.length ≤ 9223372036854775807) (w : World) (hm : Dfa.Mem w d) : Does Try.prog 37 #[d.val, str t] w fun v w' => v = .int .i64 (Dfa.after d t) ∧ Ext [] w w' := by
  unfold Dfa.D.val
  refine does (args := [.agg (List.toArray (Dfa.dC (Dfa.clsV d) (.slice d.a d.next.length d.c) (.slice d.ar d.rules.length d.cr))), str t]) Try.func37 rfl (by kernel_rfl) (by kernel_rfl) rfl ent_37 (Sat.start w []) ?_; intro QV hQ
  have hnl := hm.nlen
  simp only [maxLen] at hnl
  simp -implicitDefEqProofs (disch := omega) only [go_sem]
  refine RNew_intro fun g hg => ?_
  simp only [below_cons, below_nil, under_anchor, and_true] at hg
  simp -implicitDefEqProofs (disch := omega) only [go_sem]
  refine RCall_eqS (fun w1 hs => rdfa_right d w1 (hm.keep (hs.mem (.anchor w []) (by simp)))) ?_
  by_cases h1 : Dfa.Right d
  rotate_left
  · have hv2 : Dfa.after d t = -1 := by unfold Dfa.after; rw [if_neg h1]
    rw [hv2] at hQ
    simp -implicitDefEqProofs (disch := omega) only [go_sem, h1, decide_false]
    exact hQ _ _ fun w' hs => ⟨rfl, hs.anchor (by simp)⟩
  obtain ⟨_, k1, k2⟩ := Dfa.run_ok h1 t
  have hv2 : Dfa.after d t = d.rules.getD (Dfa.run d t).toNat 0 := by unfold Dfa.after; rw [if_pos h1]
  rw [hv2] at hQ
  obtain ⟨b, o, e, hb, hc⟩ := Dfa.ints_at hm.rules (Dfa.run d t).toNat (by have := h1.2.2.1; omega)
  have hrl := h1.2.2.1
  have hcall : ∀ w1, Ext [] w w1 → Does Try.prog 35 #[d.val, str t] w1 fun v w' => v = .int .i64 (Dfa.run d t) ∧ Ext [] w1 w' := fun w1 hx => rdfa_run d t ht w1 (hm.keep hx)
  unfold Dfa.D.val at hcall
  generalize Dfa.run d t = s at *
  rw [e] at hcall ⊢
  simp -implicitDefEqProofs (disch := omega) only [go_sem, h1, decide_true]
  refine RDraw_seg (by kernel_rfl) (by kernel_rfl) 8 rfl ?_
  refine RS_det (by kernel_rfl) ?_
  repeat (first | refine ToO_step (fun Q hq => by (simp -implicitDefEqProofs (disch := omega) only [go_sem]; exact hq)) ?_ | refine ToO_guard (by (simp -implicitDefEqProofs only [go_sem]; first | done | fail)) (fun Q hq => by (simp -implicitDefEqProofs (disch := omega) only [go_sem]; exact hq)) ?_ | refine ToO_skip (.inl (by (simp -implicitDefEqProofs only [go_sem]; first | done | fail))) ?_ | refine ToO_skip (.inr (by (simp -implicitDefEqProofs only [go_sem]; first | done | fail))) ?_)
  first | refine ToO_step (fun Q hq => by (simp -implicitDefEqProofs (disch := omega) only [go_sem]; refine RCall_eqS (fun w1 hs => hcall w1 (hs.mem (.anchor w []) (by simp))) ?_; simp -implicitDefEqProofs (disch := omega) only [go_sem]; exact hq)) ?_ | refine ToO_guard (by (simp -implicitDefEqProofs only [go_sem]; first | done | fail)) (fun Q hq => by (simp -implicitDefEqProofs (disch := omega) only [go_sem]; refine RCall_eqS (fun w1 hs => hcall w1 (hs.mem (.anchor w []) (by simp))) ?_; simp -implicitDefEqProofs (disch := omega) only [go_sem]; exact hq)) ?_
  repeat (first | refine ToO_step (fun Q hq => by (simp -implicitDefEqProofs (disch := omega) only [go_sem, hc]; exact hq)) ?_ | refine ToO_guard (by (simp -implicitDefEqProofs only [go_sem, hc]; first | done | fail)) (fun Q hq => by (simp -implicitDefEqProofs (disch := omega) only [go_sem, hc]; exact hq)) ?_ | refine ToO_skip (.inl (by (simp -implicitDefEqProofs only [go_sem, hc]; first | done | fail))) ?_ | refine ToO_skip (.inr (by (simp -implicitDefEqProofs only [go_sem, hc]; first | done | fail))) ?_)
  refine ToO_nil ?_
  simp -implicitDefEqProofs (disch := omega) only [go_sem]
  exact hQ _ _ fun w' hs => ⟨rfl, hs.anchor (by simp)⟩

set_option maxRecDepth 20000 in
set_option maxHeartbeats 2000000 in
theorem dfa_light (d : Dfa.D) (w : World) (hm : Dfa.Mem w d) : Does Try.prog 28 #[d.val] w fun v w' => (∃ b, v = .bool b) ∧ Ext [] w w' := by
  unfold Dfa.D.val
  refine does (args := [.agg (List.toArray (Dfa.dC (Dfa.clsV d) (.slice d.a d.next.length d.c) (.slice d.ar d.rules.length d.cr)))]) Try.func28 rfl (by kernel_rfl) (by kernel_rfl) rfl ent_28 (Sat.start w []) ?_; intro QV hQ
  have hnl := hm.nlen
  simp only [maxLen] at hnl
  simp -implicitDefEqProofs (disch := omega) only [go_sem]
  refine RNew_intro fun g hg => ?_
  simp only [below_cons, below_nil, under_anchor, and_true] at hg
  by_cases h1 : (1100 : Int) < (d.next.length : Int)
  · simp -implicitDefEqProofs (disch := omega) only [go_sem, h1, decide_true]
    exact hQ _ _ fun w' hs => ⟨⟨_, rfl⟩, hs.anchor (by simp)⟩
  by_cases h2 : (1100 : Int) < (d.rules.length : Int)
  · simp -implicitDefEqProofs (disch := omega) only [go_sem, h1, h2, decide_true, decide_false]
    exact hQ _ _ fun w' hs => ⟨⟨_, rfl⟩, hs.anchor (by simp)⟩
  simp -implicitDefEqProofs (disch := omega) only [go_sem, h1, h2, decide_false]
  generalize hH : [Res.cells g 48 (List.toArray (Dfa.dC (Dfa.clsV d) (.slice d.a d.next.length d.c) (.slice d.ar d.rules.length d.cr))), .anchor w []] = H at *
  refine RLoop_intro (fun f h => ∃ (i : Nat) (n : Int), i ≤ d.next.length ∧ f 1 = .pointer (some ⟨g, 0, none⟩) ∧ f 3 = .int .i64 n ∧ f 4 = .int .i64 (i : Int) ∧ h = H) (fun f _ => (d.next.length - ival (f 4)).toNat) ?_ ?_
  · exact ⟨0, 0, by omega, by (first | (simp -implicitDefEqProofs (disch := omega) only [go_sem]; done) | (simp -implicitDefEqProofs (disch := omega) only [go_sem]; rfl)), by (first | (simp -implicitDefEqProofs (disch := omega) only [go_sem]; done) | (simp -implicitDefEqProofs (disch := omega) only [go_sem]; rfl)), by (first | (simp -implicitDefEqProofs (disch := omega) only [go_sem]; done) | (simp -implicitDefEqProofs (disch := omega) only [go_sem]; rfl)), rfl⟩
  rintro f h ⟨i, n, hi, e1, e3, e4, rfl⟩ Q' hQ'
  subst hH
  by_cases hil : i < d.next.length
  · have g1 : (i : Int) < (d.next.length : Int) := by omega
    obtain ⟨b, o, e, hb, hc⟩ := Dfa.next_at hm i hil
    rw [e]
    simp -implicitDefEqProofs (disch := omega) only [go_sem, e1, e3, e4, g1, hc, decide_true]
    refine RC_intro (fun h3 => ?_) (fun h3 => ?_)
    · simp -implicitDefEqProofs (disch := omega) only [go_sem]
      exact hQ _ _ fun w' hs => ⟨⟨_, rfl⟩, hs.anchor (by simp)⟩
    · simp -implicitDefEqProofs (disch := omega) only [go_sem, e1, e3, e4]
      refine hQ' _ _ _ (fun _ hs => hs) ⟨i + 1, IntKind.i64.wrap (n + ((Dfa.row d i).length : Int)), by omega, ?_, ?_, ?_, by rw [e]⟩ ?_
      · (first | (simp -implicitDefEqProofs (disch := omega) only [go_sem, e1, e3, e4]; done) | (simp -implicitDefEqProofs (disch := omega) only [go_sem, e1, e3, e4]; rfl))
      · (first | (simp -implicitDefEqProofs (disch := omega) only [go_sem, e1, e3, e4]; done) | (simp -implicitDefEqProofs (disch := omega) only [go_sem, e1, e3, e4]; rfl))
      · (first | (simp -implicitDefEqProofs (disch := omega) only [go_sem, e1, e3, e4]; done) | (simp -implicitDefEqProofs (disch := omega) only [go_sem, e1, e3, e4]; rfl))
      · simp -implicitDefEqProofs (disch := omega) only [go_sem, e1, e3, e4]; omega
  · have g1 : ¬ (i : Int) < (d.next.length : Int) := by omega
    simp -implicitDefEqProofs (disch := omega) only [go_sem, e1, e3, e4, g1, decide_false]
    exact hQ _ _ fun w' hs => ⟨⟨_, rfl⟩, hs.anchor (by simp)⟩
end Go.Proofs.Ytpdckakccegofaa
