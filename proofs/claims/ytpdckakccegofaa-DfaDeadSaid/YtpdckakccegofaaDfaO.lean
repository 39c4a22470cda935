/- The laws of dfa: the walks. -/
import Derived.Test.YtpdckakccegofaaDfaK
import Derived.Test.YtpdckakccegofaaDfaE
import Derived.Test.YtpdckakccegofaaDfaF
namespace Go.Proofs.Ytpdckakccegofaa
set_option linter.unusedSimpArgs false
set_option linter.unusedVariables false
open H

set_option maxRecDepth 20000 in
set_option maxHeartbeats 2000000 in
theorem law_runs (d : Dfa.D) (s : Int) (t : List UInt8) (ht : t.length ≤ 9223372036854775807) (w : World) (hm : Dfa.Mem w d) : Does Try.prog 7 #[d.val, .int .i64 s, str t] w fun v w' => v = .bool true ∧ Ext [] w w' := by
  unfold Dfa.D.val
  refine does (args := [.agg (List.toArray (Dfa.dC (Dfa.clsV d) (.slice d.a d.next.length d.c) (.slice d.ar d.rules.length d.cr))), .int .i64 s, str t]) Try.func7 rfl (by kernel_rfl) (by kernel_rfl) rfl ent_7 (Sat.start w []) ?_; intro QV hQ
  have hnl := hm.nlen
  simp only [maxLen] at hnl
  simp -implicitDefEqProofs (disch := omega) only [go_sem]
  refine RNew_intro fun g hg => ?_
  simp only [below_cons, below_nil, under_anchor, and_true] at hg
  simp -implicitDefEqProofs (disch := omega) only [go_sem]
  refine RCall_of (φ := fun v => ∃ b, v = .bool b) (fun w1 hs => dfa_light d w1 (hm.keep (hs.mem (.anchor w []) (by simp)))) ?_
  rintro _ ⟨b0, rfl⟩
  cases b0 with
  | false =>
    simp -implicitDefEqProofs (disch := omega) only [go_sem]
    refine RCall_eq dfa_known ?_
    simp -implicitDefEqProofs (disch := omega) only [go_sem]
    exact hQ _ _ fun w' hs => ⟨rfl, hs.anchor (by simp)⟩
  | true =>
    by_cases h1 : (1000 : Int) < (t.length : Int)
    · simp -implicitDefEqProofs (disch := omega) only [go_sem, h1, decide_true]
      refine RCall_eq dfa_known ?_
      simp -implicitDefEqProofs (disch := omega) only [go_sem]
      exact hQ _ _ fun w' hs => ⟨rfl, hs.anchor (by simp)⟩
    simp -implicitDefEqProofs (disch := omega) only [go_sem, h1, decide_false]
    refine RDraw_seg (by kernel_rfl) (by kernel_rfl) 38 rfl ?_
    refine RS_det (by kernel_rfl) ?_
    repeat (first | refine ToO_step (fun Q hq => by (simp -implicitDefEqProofs (disch := omega) only [go_sem]; exact hq)) ?_ | refine ToO_guard (by (simp -implicitDefEqProofs only [go_sem]; first | done | fail)) (fun Q hq => by (simp -implicitDefEqProofs (disch := omega) only [go_sem]; exact hq)) ?_ | refine ToO_skip (.inl (by (simp -implicitDefEqProofs only [go_sem]; first | done | fail))) ?_ | refine ToO_skip (.inr (by (simp -implicitDefEqProofs only [go_sem]; first | done | fail))) ?_)
    repeat (first | refine ToO_step (fun Q hq => by (simp -implicitDefEqProofs (disch := omega) only [go_sem, beq_self_eq_true, decide_true]; exact hq)) ?_ | refine ToO_guard (by (simp -implicitDefEqProofs only [go_sem, beq_self_eq_true, decide_true]; first | done | fail)) (fun Q hq => by (simp -implicitDefEqProofs (disch := omega) only [go_sem, beq_self_eq_true, decide_true]; exact hq)) ?_ | refine ToO_skip (.inl (by (simp -implicitDefEqProofs only [go_sem, beq_self_eq_true, decide_true]; first | done | fail))) ?_ | refine ToO_skip (.inr (by (simp -implicitDefEqProofs only [go_sem, beq_self_eq_true, decide_true]; first | done | fail))) ?_)
    first | refine ToO_step (fun Q hq => by (simp -implicitDefEqProofs (disch := omega) only [go_sem]; refine RCall_eqS (fun w1 hs => dfa_right d w1 (hm.keep (hs.mem (.anchor w []) (by simp)))) ?_; simp -implicitDefEqProofs (disch := omega) only [go_sem]; exact hq)) ?_ | refine ToO_guard (by (simp -implicitDefEqProofs only [go_sem]; first | done | fail)) (fun Q hq => by (simp -implicitDefEqProofs (disch := omega) only [go_sem]; refine RCall_eqS (fun w1 hs => dfa_right d w1 (hm.keep (hs.mem (.anchor w []) (by simp)))) ?_; simp -implicitDefEqProofs (disch := omega) only [go_sem]; exact hq)) ?_
    repeat (first | refine ToO_step (fun Q hq => by (simp -implicitDefEqProofs (disch := omega) only [go_sem, beq_self_eq_true, decide_true]; exact hq)) ?_ | refine ToO_guard (by (simp -implicitDefEqProofs only [go_sem, beq_self_eq_true, decide_true]; first | done | fail)) (fun Q hq => by (simp -implicitDefEqProofs (disch := omega) only [go_sem, beq_self_eq_true, decide_true]; exact hq)) ?_ | refine ToO_skip (.inl (by (simp -implicitDefEqProofs only [go_sem, beq_self_eq_true, decide_true]; first | done | fail))) ?_ | refine ToO_skip (.inr (by (simp -implicitDefEqProofs only [go_sem, beq_self_eq_true, decide_true]; first | done | fail))) ?_)
    first | refine ToO_step (fun Q hq => by (simp -implicitDefEqProofs (disch := omega) only [go_sem, beq_self_eq_true, decide_true]; refine RCall_eqS (fun w1 hs => rdfa_right d w1 (hm.keep (hs.mem (.anchor w []) (by simp)))) ?_; simp -implicitDefEqProofs (disch := omega) only [go_sem, beq_self_eq_true, decide_true]; exact hq)) ?_ | refine ToO_guard (by (simp -implicitDefEqProofs only [go_sem, beq_self_eq_true, decide_true]; first | done | fail)) (fun Q hq => by (simp -implicitDefEqProofs (disch := omega) only [go_sem, beq_self_eq_true, decide_true]; refine RCall_eqS (fun w1 hs => rdfa_right d w1 (hm.keep (hs.mem (.anchor w []) (by simp)))) ?_; simp -implicitDefEqProofs (disch := omega) only [go_sem, beq_self_eq_true, decide_true]; exact hq)) ?_
    repeat (first | refine ToO_step (fun Q hq => by (simp -implicitDefEqProofs (disch := omega) only [go_sem, beq_self_eq_true, decide_true]; exact hq)) ?_ | refine ToO_guard (by (simp -implicitDefEqProofs only [go_sem, beq_self_eq_true, decide_true]; first | done | fail)) (fun Q hq => by (simp -implicitDefEqProofs (disch := omega) only [go_sem, beq_self_eq_true, decide_true]; exact hq)) ?_ | refine ToO_skip (.inl (by (simp -implicitDefEqProofs only [go_sem, beq_self_eq_true, decide_true]; first | done | fail))) ?_ | refine ToO_skip (.inr (by (simp -implicitDefEqProofs only [go_sem, beq_self_eq_true, decide_true]; first | done | fail))) ?_)
    first | refine ToO_step (fun Q hq => by (simp -implicitDefEqProofs (disch := omega) only [go_sem, beq_self_eq_true, decide_true]; refine RCall_eqS (fun w1 hs => dfa_step d s _ w1 (hm.keep (hs.mem (.anchor w []) (by simp)))) ?_; simp -implicitDefEqProofs (disch := omega) only [go_sem, beq_self_eq_true, decide_true]; exact hq)) ?_ | refine ToO_guard (by (simp -implicitDefEqProofs only [go_sem, beq_self_eq_true, decide_true]; first | done | fail)) (fun Q hq => by (simp -implicitDefEqProofs (disch := omega) only [go_sem, beq_self_eq_true, decide_true]; refine RCall_eqS (fun w1 hs => dfa_step d s _ w1 (hm.keep (hs.mem (.anchor w []) (by simp)))) ?_; simp -implicitDefEqProofs (disch := omega) only [go_sem, beq_self_eq_true, decide_true]; exact hq)) ?_
    repeat (first | refine ToO_step (fun Q hq => by (simp -implicitDefEqProofs (disch := omega) only [go_sem, beq_self_eq_true, decide_true]; exact hq)) ?_ | refine ToO_guard (by (simp -implicitDefEqProofs only [go_sem, beq_self_eq_true, decide_true]; first | done | fail)) (fun Q hq => by (simp -implicitDefEqProofs (disch := omega) only [go_sem, beq_self_eq_true, decide_true]; exact hq)) ?_ | refine ToO_skip (.inl (by (simp -implicitDefEqProofs only [go_sem, beq_self_eq_true, decide_true]; first | done | fail))) ?_ | refine ToO_skip (.inr (by (simp -implicitDefEqProofs only [go_sem, beq_self_eq_true, decide_true]; first | done | fail))) ?_)
    first | refine ToO_step (fun Q hq => by (simp -implicitDefEqProofs (disch := omega) only [go_sem, beq_self_eq_true, decide_true]; refine RCall_eqS (fun w1 hs => rdfa_step d s _ w1 (hm.keep (hs.mem (.anchor w []) (by simp)))) ?_; simp -implicitDefEqProofs (disch := omega) only [go_sem, beq_self_eq_true, decide_true]; exact hq)) ?_ | refine ToO_guard (by (simp -implicitDefEqProofs only [go_sem, beq_self_eq_true, decide_true]; first | done | fail)) (fun Q hq => by (simp -implicitDefEqProofs (disch := omega) only [go_sem, beq_self_eq_true, decide_true]; refine RCall_eqS (fun w1 hs => rdfa_step d s _ w1 (hm.keep (hs.mem (.anchor w []) (by simp)))) ?_; simp -implicitDefEqProofs (disch := omega) only [go_sem, beq_self_eq_true, decide_true]; exact hq)) ?_
    repeat (first | refine ToO_step (fun Q hq => by (simp -implicitDefEqProofs (disch := omega) only [go_sem, beq_self_eq_true, decide_true]; exact hq)) ?_ | refine ToO_guard (by (simp -implicitDefEqProofs only [go_sem, beq_self_eq_true, decide_true]; first | done | fail)) (fun Q hq => by (simp -implicitDefEqProofs (disch := omega) only [go_sem, beq_self_eq_true, decide_true]; exact hq)) ?_ | refine ToO_skip (.inl (by (simp -implicitDefEqProofs only [go_sem, beq_self_eq_true, decide_true]; first | done | fail))) ?_ | refine ToO_skip (.inr (by (simp -implicitDefEqProofs only [go_sem, beq_self_eq_true, decide_true]; first | done | fail))) ?_)
    first | refine ToO_step (fun Q hq => by (simp -implicitDefEqProofs (disch := omega) only [go_sem, beq_self_eq_true, decide_true]; refine RCall_eqS (fun w1 hs => dfa_run d t ht w1 (hm.keep (hs.mem (.anchor w []) (by simp)))) ?_; simp -implicitDefEqProofs (disch := omega) only [go_sem, beq_self_eq_true, decide_true]; exact hq)) ?_ | refine ToO_guard (by (simp -implicitDefEqProofs only [go_sem, beq_self_eq_true, decide_true]; first | done | fail)) (fun Q hq => by (simp -implicitDefEqProofs (disch := omega) only [go_sem, beq_self_eq_true, decide_true]; refine RCall_eqS (fun w1 hs => dfa_run d t ht w1 (hm.keep (hs.mem (.anchor w []) (by simp)))) ?_; simp -implicitDefEqProofs (disch := omega) only [go_sem, beq_self_eq_true, decide_true]; exact hq)) ?_
    repeat (first | refine ToO_step (fun Q hq => by (simp -implicitDefEqProofs (disch := omega) only [go_sem, beq_self_eq_true, decide_true]; exact hq)) ?_ | refine ToO_guard (by (simp -implicitDefEqProofs only [go_sem, beq_self_eq_true, decide_true]; first | done | fail)) (fun Q hq => by (simp -implicitDefEqProofs (disch := omega) only [go_sem, beq_self_eq_true, decide_true]; exact hq)) ?_ | refine ToO_skip (.inl (by (simp -implicitDefEqProofs only [go_sem, beq_self_eq_true, decide_true]; first | done | fail))) ?_ | refine ToO_skip (.inr (by (simp -implicitDefEqProofs only [go_sem, beq_self_eq_true, decide_true]; first | done | fail))) ?_)
    first | refine ToO_step (fun Q hq => by (simp -implicitDefEqProofs (disch := omega) only [go_sem, beq_self_eq_true, decide_true]; refine RCall_eqS (fun w1 hs => rdfa_run d t ht w1 (hm.keep (hs.mem (.anchor w []) (by simp)))) ?_; simp -implicitDefEqProofs (disch := omega) only [go_sem, beq_self_eq_true, decide_true]; exact hq)) ?_ | refine ToO_guard (by (simp -implicitDefEqProofs only [go_sem, beq_self_eq_true, decide_true]; first | done | fail)) (fun Q hq => by (simp -implicitDefEqProofs (disch := omega) only [go_sem, beq_self_eq_true, decide_true]; refine RCall_eqS (fun w1 hs => rdfa_run d t ht w1 (hm.keep (hs.mem (.anchor w []) (by simp)))) ?_; simp -implicitDefEqProofs (disch := omega) only [go_sem, beq_self_eq_true, decide_true]; exact hq)) ?_
    repeat (first | refine ToO_step (fun Q hq => by (simp -implicitDefEqProofs (disch := omega) only [go_sem, beq_self_eq_true, decide_true]; exact hq)) ?_ | refine ToO_guard (by (simp -implicitDefEqProofs only [go_sem, beq_self_eq_true, decide_true]; first | done | fail)) (fun Q hq => by (simp -implicitDefEqProofs (disch := omega) only [go_sem, beq_self_eq_true, decide_true]; exact hq)) ?_ | refine ToO_skip (.inl (by (simp -implicitDefEqProofs only [go_sem, beq_self_eq_true, decide_true]; first | done | fail))) ?_ | refine ToO_skip (.inr (by (simp -implicitDefEqProofs only [go_sem, beq_self_eq_true, decide_true]; first | done | fail))) ?_)
    first | refine ToO_step (fun Q hq => by (simp -implicitDefEqProofs (disch := omega) only [go_sem, beq_self_eq_true, decide_true]; refine RCall_eqS (fun w1 hs => dfa_after d t ht w1 (hm.keep (hs.mem (.anchor w []) (by simp)))) ?_; simp -implicitDefEqProofs (disch := omega) only [go_sem, beq_self_eq_true, decide_true]; exact hq)) ?_ | refine ToO_guard (by (simp -implicitDefEqProofs only [go_sem, beq_self_eq_true, decide_true]; first | done | fail)) (fun Q hq => by (simp -implicitDefEqProofs (disch := omega) only [go_sem, beq_self_eq_true, decide_true]; refine RCall_eqS (fun w1 hs => dfa_after d t ht w1 (hm.keep (hs.mem (.anchor w []) (by simp)))) ?_; simp -implicitDefEqProofs (disch := omega) only [go_sem, beq_self_eq_true, decide_true]; exact hq)) ?_
    repeat (first | refine ToO_step (fun Q hq => by (simp -implicitDefEqProofs (disch := omega) only [go_sem, beq_self_eq_true, decide_true]; exact hq)) ?_ | refine ToO_guard (by (simp -implicitDefEqProofs only [go_sem, beq_self_eq_true, decide_true]; first | done | fail)) (fun Q hq => by (simp -implicitDefEqProofs (disch := omega) only [go_sem, beq_self_eq_true, decide_true]; exact hq)) ?_ | refine ToO_skip (.inl (by (simp -implicitDefEqProofs only [go_sem, beq_self_eq_true, decide_true]; first | done | fail))) ?_ | refine ToO_skip (.inr (by (simp -implicitDefEqProofs only [go_sem, beq_self_eq_true, decide_true]; first | done | fail))) ?_)
    first | refine ToO_step (fun Q hq => by (simp -implicitDefEqProofs (disch := omega) only [go_sem, beq_self_eq_true, decide_true]; refine RCall_eqS (fun w1 hs => rdfa_after d t ht w1 (hm.keep (hs.mem (.anchor w []) (by simp)))) ?_; simp -implicitDefEqProofs (disch := omega) only [go_sem, beq_self_eq_true, decide_true]; exact hq)) ?_ | refine ToO_guard (by (simp -implicitDefEqProofs only [go_sem, beq_self_eq_true, decide_true]; first | done | fail)) (fun Q hq => by (simp -implicitDefEqProofs (disch := omega) only [go_sem, beq_self_eq_true, decide_true]; refine RCall_eqS (fun w1 hs => rdfa_after d t ht w1 (hm.keep (hs.mem (.anchor w []) (by simp)))) ?_; simp -implicitDefEqProofs (disch := omega) only [go_sem, beq_self_eq_true, decide_true]; exact hq)) ?_
    repeat (first | refine ToO_step (fun Q hq => by (simp -implicitDefEqProofs (disch := omega) only [go_sem, beq_self_eq_true, decide_true]; exact hq)) ?_ | refine ToO_guard (by (simp -implicitDefEqProofs only [go_sem, beq_self_eq_true, decide_true]; first | done | fail)) (fun Q hq => by (simp -implicitDefEqProofs (disch := omega) only [go_sem, beq_self_eq_true, decide_true]; exact hq)) ?_ | refine ToO_skip (.inl (by (simp -implicitDefEqProofs only [go_sem, beq_self_eq_true, decide_true]; first | done | fail))) ?_ | refine ToO_skip (.inr (by (simp -implicitDefEqProofs only [go_sem, beq_self_eq_true, decide_true]; first | done | fail))) ?_)
    first | refine ToO_step (fun Q hq => by (simp -implicitDefEqProofs (disch := omega) only [go_sem, beq_self_eq_true, decide_true]; refine RCall_eq (dfa_known) ?_; simp -implicitDefEqProofs (disch := omega) only [go_sem, beq_self_eq_true, decide_true]; exact hq)) ?_ | refine ToO_guard (by (simp -implicitDefEqProofs only [go_sem, beq_self_eq_true, decide_true]; first | done | fail)) (fun Q hq => by (simp -implicitDefEqProofs (disch := omega) only [go_sem, beq_self_eq_true, decide_true]; refine RCall_eq (dfa_known) ?_; simp -implicitDefEqProofs (disch := omega) only [go_sem, beq_self_eq_true, decide_true]; exact hq)) ?_
    repeat (first | refine ToO_step (fun Q hq => by (simp -implicitDefEqProofs (disch := omega) only [go_sem, beq_self_eq_true, decide_true]; exact hq)) ?_ | refine ToO_guard (by (simp -implicitDefEqProofs only [go_sem, beq_self_eq_true, decide_true]; first | done | fail)) (fun Q hq => by (simp -implicitDefEqProofs (disch := omega) only [go_sem, beq_self_eq_true, decide_true]; exact hq)) ?_ | refine ToO_skip (.inl (by (simp -implicitDefEqProofs only [go_sem, beq_self_eq_true, decide_true]; first | done | fail))) ?_ | refine ToO_skip (.inr (by (simp -implicitDefEqProofs only [go_sem, beq_self_eq_true, decide_true]; first | done | fail))) ?_)
    refine ToO_nil ?_
    simp -implicitDefEqProofs (disch := omega) only [go_sem]
    exact hQ _ _ fun w' hs => ⟨rfl, hs.anchor (by simp)⟩
theorem step1_ok {d : Dfa.D} (h : Dfa.Right d) {s : Int} (h0 : 0 ≤ s) (h1 : s < d.next.length) (b : UInt8) : Dfa.step1 d s b = Dfa.step d s b := by
  unfold Dfa.step1; rw [if_neg]; rintro (k | k | k); exact k h; omega; omega

set_option maxRecDepth 20000 in
set_option maxHeartbeats 2000000 in
theorem law_dparts (d : Dfa.D) (t : List UInt8) (n : Int) (ht : t.length ≤ 9223372036854775807) (hn : -9223372036854775808 ≤ n ∧ n ≤ 9223372036854775807) (w : World) (hm : Dfa.Mem w d) : Does Try.prog 9 #[d.val, str t, .int .i64 n] w fun v w' => v = .bool true ∧ Ext [] w w' := by
  unfold Dfa.D.val
  refine does (args := [.agg (List.toArray (Dfa.dC (Dfa.clsV d) (.slice d.a d.next.length d.c) (.slice d.ar d.rules.length d.cr))), str t, .int .i64 n]) Try.func9 rfl (by kernel_rfl) (by kernel_rfl) rfl ent_9 (Sat.start w []) ?_; intro QV hQ
  have hnl := hm.nlen
  simp only [maxLen] at hnl
  simp -implicitDefEqProofs (disch := omega) only [go_sem]
  refine RNew_intro fun g hg => ?_
  simp only [below_cons, below_nil, under_anchor, and_true] at hg
  simp -implicitDefEqProofs (disch := omega) only [go_sem]
  refine RCall_of (φ := fun v => ∃ b, v = .bool b) (fun w1 hs => dfa_light d w1 (hm.keep (hs.mem (.anchor w []) (by simp)))) ?_
  rintro _ ⟨b0, rfl⟩
  cases b0 with
  | false =>
    simp -implicitDefEqProofs (disch := omega) only [go_sem]
    refine RCall_eq dfa_known ?_
    simp -implicitDefEqProofs (disch := omega) only [go_sem]
    exact hQ _ _ fun w' hs => ⟨rfl, hs.anchor (by simp)⟩
  | true =>
    by_cases h1 : (300 : Int) < (t.length : Int)
    · simp -implicitDefEqProofs (disch := omega) only [go_sem, h1, decide_true]
      refine RCall_eq dfa_known ?_
      simp -implicitDefEqProofs (disch := omega) only [go_sem]
      exact hQ _ _ fun w' hs => ⟨rfl, hs.anchor (by simp)⟩
    simp -implicitDefEqProofs (disch := omega) only [go_sem, h1, decide_false]
    refine RCall_eqS (fun w1 hs => dfa_right d w1 (hm.keep (hs.mem (.anchor w []) (by simp)))) ?_
    by_cases hr : Dfa.Right d
    rotate_left
    · simp -implicitDefEqProofs (disch := omega) only [go_sem, hr, decide_false]
      refine RCall_eq dfa_known ?_
      simp -implicitDefEqProofs (disch := omega) only [go_sem]
      exact hQ _ _ fun w' hs => ⟨rfl, hs.anchor (by simp)⟩
    simp -implicitDefEqProofs (disch := omega) only [go_sem, hr, decide_true]
    refine RCall_eq (words_count n ((t.length : Int) + 1) hn (by omega)) ?_
    obtain ⟨k, hk⟩ := Int.eq_ofNat_of_zero_le (Int.emod_nonneg (pos n) (show ((t.length : Int) + 1) ≠ 0 by omega))
    have hk2 := Int.emod_lt_of_pos (pos n) (show (0 : Int) < (t.length : Int) + 1 by omega)
    rw [hk] at hk2 ⊢
    have hkl : k ≤ t.length := by omega
    simp -implicitDefEqProofs (disch := omega) only [go_sem]
    refine RDraw_seg (by kernel_rfl) (by kernel_rfl) 6 rfl ?_
    refine RS_det (by kernel_rfl) ?_
    repeat (first | refine ToO_step (fun Q hq => by (simp -implicitDefEqProofs (disch := omega) only [go_sem]; exact hq)) ?_ | refine ToO_guard (by (simp -implicitDefEqProofs only [go_sem]; first | done | fail)) (fun Q hq => by (simp -implicitDefEqProofs (disch := omega) only [go_sem]; exact hq)) ?_ | refine ToO_skip (.inl (by (simp -implicitDefEqProofs only [go_sem]; first | done | fail))) ?_ | refine ToO_skip (.inr (by (simp -implicitDefEqProofs only [go_sem]; first | done | fail))) ?_)
    first | refine ToO_step (fun Q hq => by (simp -implicitDefEqProofs (disch := omega) only [go_sem]; refine RCall_eqS (fun w1 hs => dfa_run d (t.take k) (by rw [List.length_take]; omega) w1 (hm.keep (hs.mem (.anchor w []) (by simp)))) ?_; simp -implicitDefEqProofs (disch := omega) only [go_sem]; exact hq)) ?_ | refine ToO_guard (by (simp -implicitDefEqProofs only [go_sem]; first | done | fail)) (fun Q hq => by (simp -implicitDefEqProofs (disch := omega) only [go_sem]; refine RCall_eqS (fun w1 hs => dfa_run d (t.take k) (by rw [List.length_take]; omega) w1 (hm.keep (hs.mem (.anchor w []) (by simp)))) ?_; simp -implicitDefEqProofs (disch := omega) only [go_sem]; exact hq)) ?_
    repeat (first | refine ToO_step (fun Q hq => by (simp -implicitDefEqProofs (disch := omega) only [go_sem]; exact hq)) ?_ | refine ToO_guard (by (simp -implicitDefEqProofs only [go_sem]; first | done | fail)) (fun Q hq => by (simp -implicitDefEqProofs (disch := omega) only [go_sem]; exact hq)) ?_ | refine ToO_skip (.inl (by (simp -implicitDefEqProofs only [go_sem]; first | done | fail))) ?_ | refine ToO_skip (.inr (by (simp -implicitDefEqProofs only [go_sem]; first | done | fail))) ?_)
    refine ToO_nil ?_
    simp -implicitDefEqProofs (disch := omega) only [go_sem]
    rw [(Dfa.run_ok hr (t.take k)).1]
    generalize hH : [Res.cells g 48 (List.toArray (Dfa.dC (Dfa.clsV d) (.slice d.a d.next.length d.c) (.slice d.ar d.rules.length d.cr))), .anchor w []] = H at *
    refine RLoop_intro (fun f h => ∃ (i : Nat), i ≤ t.length ∧ f 1 = str t ∧ f 3 = .pointer (some ⟨g, 0, none⟩) ∧ f 8 = .int .i64 (Dfa.runFrom d 0 (t.take i)) ∧ f 9 = .int .i64 (i : Int) ∧ h = H) (fun f _ => (t.length - ival (f 9)).toNat) ?_ ?_
    · exact ⟨k, hkl, by (first | (simp -implicitDefEqProofs (disch := omega) only [go_sem]; done) | (simp -implicitDefEqProofs (disch := omega) only [go_sem]; rfl)), by (first | (simp -implicitDefEqProofs (disch := omega) only [go_sem]; done) | (simp -implicitDefEqProofs (disch := omega) only [go_sem]; rfl)), by (first | (simp -implicitDefEqProofs (disch := omega) only [go_sem]; done) | (simp -implicitDefEqProofs (disch := omega) only [go_sem]; rfl)), by (first | (simp -implicitDefEqProofs (disch := omega) only [go_sem]; done) | (simp -implicitDefEqProofs (disch := omega) only [go_sem]; rfl)), rfl⟩
    rintro f h ⟨i, hi, e1, e3, e8, e9, rfl⟩ Q' hQ'
    subst hH
    by_cases hil : i < t.length
    · have g1 : (i : Int) < (t.length : Int) := by omega
      have hro := Dfa.runFrom_ok hr (t.take i) 0 (by omega) (by have := hr.1; omega)
      have hnext := Dfa.runFrom_take (d := d) (s := 0) hil
      generalize Dfa.runFrom d 0 (t.take i) = s at *
      generalize hbv : t.getD i 0 = b at *
      have hst := step1_ok hr hro.1 hro.2 b
      rw [← hst] at hnext
      simp -implicitDefEqProofs (disch := omega) only [go_sem, e1, e3, e8, e9, g1, decide_true]
      refine RDraw_seg (by kernel_rfl) (by kernel_rfl) 7 rfl ?_
      refine RS_det (by kernel_rfl) ?_
      repeat (first | refine ToO_step (fun Q hq => by (simp -implicitDefEqProofs (disch := omega) only [go_sem, e1, e3, e8, e9, hbv]; exact hq)) ?_ | refine ToO_guard (by (simp -implicitDefEqProofs only [go_sem, e1, e3, e8, e9, hbv]; first | done | fail)) (fun Q hq => by (simp -implicitDefEqProofs (disch := omega) only [go_sem, e1, e3, e8, e9, hbv]; exact hq)) ?_ | refine ToO_skip (.inl (by (simp -implicitDefEqProofs only [go_sem, e1, e3, e8, e9, hbv]; first | done | fail))) ?_ | refine ToO_skip (.inr (by (simp -implicitDefEqProofs only [go_sem, e1, e3, e8, e9, hbv]; first | done | fail))) ?_)
      first | refine ToO_step (fun Q hq => by (simp -implicitDefEqProofs (disch := omega) only [go_sem, e1, e3, e8, e9, hbv]; refine RCall_eqS (fun w1 hs => dfa_step d s b w1 (hm.keep (hs.mem (.anchor w []) (by simp)))) ?_; simp -implicitDefEqProofs (disch := omega) only [go_sem, e1, e3, e8, e9, hbv]; exact hq)) ?_ | refine ToO_guard (by (simp -implicitDefEqProofs only [go_sem, e1, e3, e8, e9, hbv]; first | done | fail)) (fun Q hq => by (simp -implicitDefEqProofs (disch := omega) only [go_sem, e1, e3, e8, e9, hbv]; refine RCall_eqS (fun w1 hs => dfa_step d s b w1 (hm.keep (hs.mem (.anchor w []) (by simp)))) ?_; simp -implicitDefEqProofs (disch := omega) only [go_sem, e1, e3, e8, e9, hbv]; exact hq)) ?_
      repeat (first | refine ToO_step (fun Q hq => by (simp -implicitDefEqProofs (disch := omega) only [go_sem, e1, e3, e8, e9]; exact hq)) ?_ | refine ToO_guard (by (simp -implicitDefEqProofs only [go_sem, e1, e3, e8, e9]; first | done | fail)) (fun Q hq => by (simp -implicitDefEqProofs (disch := omega) only [go_sem, e1, e3, e8, e9]; exact hq)) ?_ | refine ToO_skip (.inl (by (simp -implicitDefEqProofs only [go_sem, e1, e3, e8, e9]; first | done | fail))) ?_ | refine ToO_skip (.inr (by (simp -implicitDefEqProofs only [go_sem, e1, e3, e8, e9]; first | done | fail))) ?_)
      refine ToO_nil ?_
      simp -implicitDefEqProofs (disch := omega) only [go_sem, e1, e3, e8, e9]
      refine hQ' _ _ _ (fun _ hs => hs) ⟨i + 1, by omega, ?_, ?_, ?_, ?_, rfl⟩ ?_
      · (first | (simp -implicitDefEqProofs (disch := omega) only [go_sem, e1, e3, e8, e9]; done) | (simp -implicitDefEqProofs (disch := omega) only [go_sem, e1, e3, e8, e9]; rfl))
      · (first | (simp -implicitDefEqProofs (disch := omega) only [go_sem, e1, e3, e8, e9]; done) | (simp -implicitDefEqProofs (disch := omega) only [go_sem, e1, e3, e8, e9]; rfl))
      · rw [hnext]; (first | (simp -implicitDefEqProofs (disch := omega) only [go_sem, e1, e3, e8, e9]; done) | (simp -implicitDefEqProofs (disch := omega) only [go_sem, e1, e3, e8, e9]; rfl))
      · (first | (simp -implicitDefEqProofs (disch := omega) only [go_sem, e1, e3, e8, e9]; done) | (simp -implicitDefEqProofs (disch := omega) only [go_sem, e1, e3, e8, e9]; rfl))
      · simp -implicitDefEqProofs (disch := omega) only [go_sem, e1, e3, e8, e9]; omega
    · have g1 : ¬ (i : Int) < (t.length : Int) := by omega
      rw [List.take_of_length_le (by omega), ← (Dfa.run_ok hr t).1] at e8
      obtain ⟨_, q1, q2⟩ := Dfa.run_ok hr t
      have haf : Dfa.after d t = d.rules.getD (Dfa.run d t).toNat 0 := by unfold Dfa.after; rw [if_pos hr]
      obtain ⟨b, o, e, hb, hc⟩ := Dfa.ints_at hm.rules (Dfa.run d t).toNat (by have := hr.2.2.1; omega)
      rw [← haf] at hc
      have q3 : Dfa.run d t < (d.rules.length : Int) := by have := hr.2.2.1; omega
      have q4 : (0 : Int) ≤ Dfa.run d t := q1
      have cR : ∀ w1, Dfa.Mem w1 d → Does Try.prog 34 #[d.val, str t] w1 fun v w' => v = .int .i64 (Dfa.run d t) ∧ Ext [] w1 w' := fun w1 h => dfa_run d t ht w1 h
      have cA : ∀ w1, Dfa.Mem w1 d → Does Try.prog 36 #[d.val, str t] w1 fun v w' => v = .int .i64 (Dfa.after d t) ∧ Ext [] w1 w' := fun w1 h => dfa_after d t ht w1 h
      clear haf
      generalize Dfa.run d t = s at *
      generalize Dfa.after d t = r at *
      simp -implicitDefEqProofs (disch := omega) only [go_sem, e1, e3, e8, e9, g1, decide_false]
      refine RDraw_seg (by kernel_rfl) (by kernel_rfl) 31 rfl ?_
      refine RS_det (by kernel_rfl) ?_
      repeat (first | refine ToO_step (fun Q hq => by (simp -implicitDefEqProofs (disch := omega) only [go_sem, e1, e3, e8, e9]; exact hq)) ?_ | refine ToO_guard (by (simp -implicitDefEqProofs only [go_sem, e1, e3, e8, e9]; first | done | fail)) (fun Q hq => by (simp -implicitDefEqProofs (disch := omega) only [go_sem, e1, e3, e8, e9]; exact hq)) ?_ | refine ToO_skip (.inl (by (simp -implicitDefEqProofs only [go_sem, e1, e3, e8, e9]; first | done | fail))) ?_ | refine ToO_skip (.inr (by (simp -implicitDefEqProofs only [go_sem, e1, e3, e8, e9]; first | done | fail))) ?_)
      first | refine ToO_step (fun Q hq => by (simp -implicitDefEqProofs (disch := omega) only [go_sem, e1, e3, e8, e9]; refine RCall_eqS (fun w1 hs => cR w1 (hm.keep (hs.mem (.anchor w []) (by simp)))) ?_; simp -implicitDefEqProofs (disch := omega) only [go_sem, e1, e3, e8, e9]; exact hq)) ?_ | refine ToO_guard (by (simp -implicitDefEqProofs only [go_sem, e1, e3, e8, e9]; first | done | fail)) (fun Q hq => by (simp -implicitDefEqProofs (disch := omega) only [go_sem, e1, e3, e8, e9]; refine RCall_eqS (fun w1 hs => cR w1 (hm.keep (hs.mem (.anchor w []) (by simp)))) ?_; simp -implicitDefEqProofs (disch := omega) only [go_sem, e1, e3, e8, e9]; exact hq)) ?_
      repeat (first | refine ToO_step (fun Q hq => by (simp -implicitDefEqProofs (disch := omega) only [go_sem, e1, e3, e8, e9, q2, q4, decide_true]; exact hq)) ?_ | refine ToO_guard (by (simp -implicitDefEqProofs only [go_sem, e1, e3, e8, e9, q2, q4, decide_true]; first | done | fail)) (fun Q hq => by (simp -implicitDefEqProofs (disch := omega) only [go_sem, e1, e3, e8, e9, q2, q4, decide_true]; exact hq)) ?_ | refine ToO_skip (.inl (by (simp -implicitDefEqProofs only [go_sem, e1, e3, e8, e9, q2, q4, decide_true]; first | done | fail))) ?_ | refine ToO_skip (.inr (by (simp -implicitDefEqProofs only [go_sem, e1, e3, e8, e9, q2, q4, decide_true]; first | done | fail))) ?_)
      first | refine ToO_step (fun Q hq => by (simp -implicitDefEqProofs (disch := omega) only [go_sem, e1, e3, e8, e9, decide_true]; refine RCall_eqS (fun w1 hs => cA w1 (hm.keep (hs.mem (.anchor w []) (by simp)))) ?_; simp -implicitDefEqProofs (disch := omega) only [go_sem, e1, e3, e8, e9, decide_true]; exact hq)) ?_ | refine ToO_guard (by (simp -implicitDefEqProofs only [go_sem, e1, e3, e8, e9, decide_true]; first | done | fail)) (fun Q hq => by (simp -implicitDefEqProofs (disch := omega) only [go_sem, e1, e3, e8, e9, decide_true]; refine RCall_eqS (fun w1 hs => cA w1 (hm.keep (hs.mem (.anchor w []) (by simp)))) ?_; simp -implicitDefEqProofs (disch := omega) only [go_sem, e1, e3, e8, e9, decide_true]; exact hq)) ?_
      rw [e]
      repeat (first | refine ToO_step (fun Q hq => by (simp -implicitDefEqProofs (disch := omega) only [go_sem, e1, e3, e8, e9, hc, decide_true]; exact hq)) ?_ | refine ToO_guard (by (simp -implicitDefEqProofs only [go_sem, e1, e3, e8, e9, hc, decide_true]; first | done | fail)) (fun Q hq => by (simp -implicitDefEqProofs (disch := omega) only [go_sem, e1, e3, e8, e9, hc, decide_true]; exact hq)) ?_ | refine ToO_skip (.inl (by (simp -implicitDefEqProofs only [go_sem, e1, e3, e8, e9, hc, decide_true]; first | done | fail))) ?_ | refine ToO_skip (.inr (by (simp -implicitDefEqProofs only [go_sem, e1, e3, e8, e9, hc, decide_true]; first | done | fail))) ?_)
      first | refine ToO_step (fun Q hq => by (simp -implicitDefEqProofs (disch := omega) only [go_sem, e1, e3, e8, e9, decide_true]; refine RCall_eq (dfa_known) ?_; simp -implicitDefEqProofs (disch := omega) only [go_sem, e1, e3, e8, e9, decide_true]; exact hq)) ?_ | refine ToO_guard (by (simp -implicitDefEqProofs only [go_sem, e1, e3, e8, e9, decide_true]; first | done | fail)) (fun Q hq => by (simp -implicitDefEqProofs (disch := omega) only [go_sem, e1, e3, e8, e9, decide_true]; refine RCall_eq (dfa_known) ?_; simp -implicitDefEqProofs (disch := omega) only [go_sem, e1, e3, e8, e9, decide_true]; exact hq)) ?_
      repeat (first | refine ToO_step (fun Q hq => by (simp -implicitDefEqProofs (disch := omega) only [go_sem, e1, e3, e8, e9]; exact hq)) ?_ | refine ToO_guard (by (simp -implicitDefEqProofs only [go_sem, e1, e3, e8, e9]; first | done | fail)) (fun Q hq => by (simp -implicitDefEqProofs (disch := omega) only [go_sem, e1, e3, e8, e9]; exact hq)) ?_ | refine ToO_skip (.inl (by (simp -implicitDefEqProofs only [go_sem, e1, e3, e8, e9]; first | done | fail))) ?_ | refine ToO_skip (.inr (by (simp -implicitDefEqProofs only [go_sem, e1, e3, e8, e9]; first | done | fail))) ?_)
      refine ToO_nil ?_
      simp -implicitDefEqProofs (disch := omega) only [go_sem, e1, e3, e8, e9]
      exact hQ _ _ fun w' hs => ⟨rfl, hs.anchor (by simp)⟩
end Go.Proofs.Ytpdckakccegofaa
