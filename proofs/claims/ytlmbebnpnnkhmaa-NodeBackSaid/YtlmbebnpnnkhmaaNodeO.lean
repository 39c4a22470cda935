/- node's laws: the walks: what is laid down. -/
import Derived.Test.YtlmbebnpnnkhmaaNodeL
namespace Go.Proofs.Ytlmbebnpnnkhmaa
set_option linter.unusedSimpArgs false
set_option linter.unusedVariables false
open H
theorem beq_b (b : Bool) : (b == b) = true := by cases b <;> rfl
set_option maxRecDepth 20000 in
set_option maxHeartbeats 4000000 in
theorem law_nbuilds (n : Nd.N) (t : Nd.Tk) (a1 a2 : Option Addr) (c1 c2 : Nat) (w : World) (hm : Nd.Mem w n a1 a2) : Does Try.prog 3 #[Nd.nV n a1 c1 a2 c2, .agg (List.toArray (Tok.tkC t))] w fun v w' => v = .bool true ∧ Ext [] w w' := by
  unfold Nd.nV
  refine does (args := [.agg #[.bool n.leaf, .slice a1 n.toks.length c1, .slice a2 n.kids.length c2], .agg #[.int .i64 t.1, .int .i64 t.2.1, .int .i64 t.2.2]]) Try.func3 rfl (by kernel_rfl) (by kernel_rfl) rfl ent_3 (Sat.start w []) ?_; intro QV hQ
  simp -implicitDefEqProofs (disch := omega) only [go_sem]
  refine RNew_intro fun g hg => ?_
  simp only [below_cons, below_nil, under_anchor, and_true] at hg
  simp -implicitDefEqProofs (disch := omega) only [go_sem]
  refine RNew_intro fun g2 hg2 => ?_
  simp only [below_cons, below_nil, under_anchor, under_cells, and_true] at hg2
  have ng : g ≠ g2 := Nat.ne_of_lt hg2.1
  simp -implicitDefEqProofs (disch := omega) only [go_sem]
  refine RCall_eq (law_light n a1 a2 c1 c2) ?_
  by_cases h1 : n.toks.length ≤ 100 ∧ n.kids.length ≤ 100
  rotate_left
  · simp -implicitDefEqProofs (disch := omega) only [go_sem, h1, decide_false]
    refine RCall_eq node_known ?_
    simp -implicitDefEqProofs (disch := omega) only [go_sem]
    exact hQ _ _ fun w' hs => ⟨rfl, hs.anchor (by simp)⟩
  simp -implicitDefEqProofs (disch := omega) only [go_sem, decide_eq_true h1]
  refine RCall_newS (fun w1 hs => law_given n a1 a2 c1 c2 (by omega) w1 (hm.keep (hs.mem (.anchor w []) (by simp)))) ?_
  rintro _ rs ⟨a3, c3, rfl, hc3, rfl⟩ _
  unfold Nd.nV
  simp -implicitDefEqProofs (disch := omega) only [go_sem]
  refine RCall_eqS (fun w1 hs => node_build n a1 a3 c1 c3 (by omega) (by omega) w1 ⟨hm.toks.keep (hs.mem (.anchor w []) (by simp)), own_rd (t := 63) (c := c3) hs (by simp)⟩) ?_
  simp -implicitDefEqProofs (disch := omega) only [go_sem]
  refine RCall_eqS (fun w1 hs => rnode_build n a1 a2 c1 c2 (by omega) (by omega) w1 (hm.keep (hs.mem (.anchor w []) (by simp)))) ?_
  generalize Nd.build n = bd at *
  obtain ⟨b, e⟩ := bd
  simp -implicitDefEqProofs (disch := omega) only [go_sem]
  refine RDraw_seg (by kernel_rfl) (by kernel_rfl) 27 rfl ?_
  refine RS_cutR [0, 1, 2, 3, 4, 5, 6, 7, 8, 9] [10, 11, 12, 13, 14, 15, 16, 17, 18, 19, 20, 21, 22, 23, 24, 25, 26] (by decide +kernel) ?_
  refine RS_det (by kernel_rfl) ?_
  repeat (first | refine ToO_step (fun Q hq => by (simp -implicitDefEqProofs (disch := omega) only [go_sem, decide_true]; exact hq)) ?_ | refine ToO_guard (by (simp -implicitDefEqProofs only [go_sem, decide_true]; first | done | fail)) (fun Q hq => by (simp -implicitDefEqProofs (disch := omega) only [go_sem, decide_true]; exact hq)) ?_ | refine ToO_skip (.inl (by (simp -implicitDefEqProofs only [go_sem, decide_true]; first | done | fail))) ?_ | refine ToO_skip (.inr (by (simp -implicitDefEqProofs only [go_sem, decide_true]; first | done | fail))) ?_)
  refine ToO_nil ?_
  refine RS_first [10, 12] (by kernel_rfl) ⟨?_, ?_, trivial⟩
  · simp -implicitDefEqProofs (disch := omega) only [go_sem]
    refine RCall_newS (fun w1 hs => law_given n a1 a2 c1 c2 (by omega) w1 (hm.keep (hs.mem (.anchor w []) (by simp)))) ?_
    rintro _ rs ⟨a4, c4, rfl, hc4, rfl⟩ _
    unfold Nd.nV
    simp -implicitDefEqProofs (disch := omega) only [go_sem]
    refine RS_det (L := [11, 12, 13, 14, 15, 16, 17, 18, 19, 20, 21, 22, 23, 24, 25, 26]) (by kernel_rfl) ?_
    first | refine ToO_step (fun Q hq => by (simp -implicitDefEqProofs (disch := omega) only [go_sem]; refine RCall_eqS (fun w1 hs => node_right n a1 a4 c1 c4 (by omega) (by omega) w1 ⟨hm.toks.keep (hs.mem (.anchor w []) (by simp)), own_rd (t := 63) (c := c4) hs (by simp)⟩) ?_; simp -implicitDefEqProofs (disch := omega) only [go_sem]; exact hq)) ?_ | refine ToO_guard (by (simp -implicitDefEqProofs only [go_sem]; first | done | fail)) (fun Q hq => by (simp -implicitDefEqProofs (disch := omega) only [go_sem]; refine RCall_eqS (fun w1 hs => node_right n a1 a4 c1 c4 (by omega) (by omega) w1 ⟨hm.toks.keep (hs.mem (.anchor w []) (by simp)), own_rd (t := 63) (c := c4) hs (by simp)⟩) ?_; simp -implicitDefEqProofs (disch := omega) only [go_sem]; exact hq)) ?_
    repeat (first | refine ToO_step (fun Q hq => by (simp -implicitDefEqProofs (disch := omega) only [go_sem]; exact hq)) ?_ | refine ToO_guard (by (simp -implicitDefEqProofs only [go_sem]; first | done | fail)) (fun Q hq => by (simp -implicitDefEqProofs (disch := omega) only [go_sem]; exact hq)) ?_ | refine ToO_skip (.inl (by (simp -implicitDefEqProofs only [go_sem]; first | done | fail))) ?_ | refine ToO_skip (.inr (by (simp -implicitDefEqProofs only [go_sem]; first | done | fail))) ?_)
    first | refine ToO_step (fun Q hq => by (simp -implicitDefEqProofs (disch := omega) only [go_sem]; refine RCall_eqS (fun w1 hs => rnode_right n a1 a2 c1 c2 (by omega) (by omega) w1 (hm.keep (hs.mem (.anchor w []) (by simp)))) ?_; simp -implicitDefEqProofs (disch := omega) only [go_sem]; exact hq)) ?_ | refine ToO_guard (by (simp -implicitDefEqProofs only [go_sem]; first | done | fail)) (fun Q hq => by (simp -implicitDefEqProofs (disch := omega) only [go_sem]; refine RCall_eqS (fun w1 hs => rnode_right n a1 a2 c1 c2 (by omega) (by omega) w1 (hm.keep (hs.mem (.anchor w []) (by simp)))) ?_; simp -implicitDefEqProofs (disch := omega) only [go_sem]; exact hq)) ?_
    repeat (first | refine ToO_step (fun Q hq => by (simp -implicitDefEqProofs (disch := omega) only [go_sem, beq_b, decide_true]; exact hq)) ?_ | refine ToO_guard (by (simp -implicitDefEqProofs only [go_sem, beq_b, decide_true]; first | done | fail)) (fun Q hq => by (simp -implicitDefEqProofs (disch := omega) only [go_sem, beq_b, decide_true]; exact hq)) ?_ | refine ToO_skip (.inl (by (simp -implicitDefEqProofs only [go_sem, beq_b, decide_true]; first | done | fail))) ?_ | refine ToO_skip (.inr (by (simp -implicitDefEqProofs only [go_sem, beq_b, decide_true]; first | done | fail))) ?_)
    first | refine ToO_step (fun Q hq => by (simp -implicitDefEqProofs (disch := omega) only [go_sem]; refine RCall_eq (node_token t) ?_; simp -implicitDefEqProofs (disch := omega) only [go_sem]; exact hq)) ?_ | refine ToO_guard (by (simp -implicitDefEqProofs only [go_sem]; first | done | fail)) (fun Q hq => by (simp -implicitDefEqProofs (disch := omega) only [go_sem]; refine RCall_eq (node_token t) ?_; simp -implicitDefEqProofs (disch := omega) only [go_sem]; exact hq)) ?_
    repeat (first | refine ToO_step (fun Q hq => by (simp -implicitDefEqProofs (disch := omega) only [go_sem, beq_b, decide_true]; exact hq)) ?_ | refine ToO_guard (by (simp -implicitDefEqProofs only [go_sem, beq_b, decide_true]; first | done | fail)) (fun Q hq => by (simp -implicitDefEqProofs (disch := omega) only [go_sem, beq_b, decide_true]; exact hq)) ?_ | refine ToO_skip (.inl (by (simp -implicitDefEqProofs only [go_sem, beq_b, decide_true]; first | done | fail))) ?_ | refine ToO_skip (.inr (by (simp -implicitDefEqProofs only [go_sem, beq_b, decide_true]; first | done | fail))) ?_)
    first | refine ToO_step (fun Q hq => by (simp -implicitDefEqProofs (disch := omega) only [go_sem]; refine RCall_eq (rnode_token t) ?_; simp -implicitDefEqProofs (disch := omega) only [go_sem]; exact hq)) ?_ | refine ToO_guard (by (simp -implicitDefEqProofs only [go_sem]; first | done | fail)) (fun Q hq => by (simp -implicitDefEqProofs (disch := omega) only [go_sem]; refine RCall_eq (rnode_token t) ?_; simp -implicitDefEqProofs (disch := omega) only [go_sem]; exact hq)) ?_
    repeat (first | refine ToO_step (fun Q hq => by (simp -implicitDefEqProofs (disch := omega) only [go_sem, beq_b, decide_true]; exact hq)) ?_ | refine ToO_guard (by (simp -implicitDefEqProofs only [go_sem, beq_b, decide_true]; first | done | fail)) (fun Q hq => by (simp -implicitDefEqProofs (disch := omega) only [go_sem, beq_b, decide_true]; exact hq)) ?_ | refine ToO_skip (.inl (by (simp -implicitDefEqProofs only [go_sem, beq_b, decide_true]; first | done | fail))) ?_ | refine ToO_skip (.inr (by (simp -implicitDefEqProofs only [go_sem, beq_b, decide_true]; first | done | fail))) ?_)
    first | refine ToO_step (fun Q hq => by (simp -implicitDefEqProofs (disch := omega) only [go_sem]; refine RCall_eq (node_known) ?_; simp -implicitDefEqProofs (disch := omega) only [go_sem]; exact hq)) ?_ | refine ToO_guard (by (simp -implicitDefEqProofs only [go_sem]; first | done | fail)) (fun Q hq => by (simp -implicitDefEqProofs (disch := omega) only [go_sem]; refine RCall_eq (node_known) ?_; simp -implicitDefEqProofs (disch := omega) only [go_sem]; exact hq)) ?_
    repeat (first | refine ToO_step (fun Q hq => by (simp -implicitDefEqProofs (disch := omega) only [go_sem]; exact hq)) ?_ | refine ToO_guard (by (simp -implicitDefEqProofs only [go_sem]; first | done | fail)) (fun Q hq => by (simp -implicitDefEqProofs (disch := omega) only [go_sem]; exact hq)) ?_ | refine ToO_skip (.inl (by (simp -implicitDefEqProofs only [go_sem]; first | done | fail))) ?_ | refine ToO_skip (.inr (by (simp -implicitDefEqProofs only [go_sem]; first | done | fail))) ?_)
    refine ToO_nil ?_
    simp -implicitDefEqProofs (disch := omega) only [go_sem]
    exact hQ _ _ fun w' hs => ⟨rfl, hs.anchor (by simp)⟩
  · simp -implicitDefEqProofs (disch := omega) only [go_sem]
    refine RS_first [10] (by kernel_rfl) ⟨?_, trivial⟩
    simp -implicitDefEqProofs (disch := omega) only [go_sem]
    refine RCall_newS (fun w1 hs => law_given n a1 a2 c1 c2 (by omega) w1 (hm.keep (hs.mem (.anchor w []) (by simp)))) ?_
    rintro _ rs ⟨a4, c4, rfl, hc4, rfl⟩ _
    unfold Nd.nV
    simp -implicitDefEqProofs (disch := omega) only [go_sem]
    refine RS_det (L := [11, 13, 14, 15, 16, 17, 18, 19, 20, 21, 22, 23, 24, 25, 26]) (by kernel_rfl) ?_
    first | refine ToO_step (fun Q hq => by (simp -implicitDefEqProofs (disch := omega) only [go_sem]; refine RCall_eqS (fun w1 hs => node_right n a1 a4 c1 c4 (by omega) (by omega) w1 ⟨hm.toks.keep (hs.mem (.anchor w []) (by simp)), own_rd (t := 63) (c := c4) hs (by simp)⟩) ?_; simp -implicitDefEqProofs (disch := omega) only [go_sem]; exact hq)) ?_ | refine ToO_guard (by (simp -implicitDefEqProofs only [go_sem]; first | done | fail)) (fun Q hq => by (simp -implicitDefEqProofs (disch := omega) only [go_sem]; refine RCall_eqS (fun w1 hs => node_right n a1 a4 c1 c4 (by omega) (by omega) w1 ⟨hm.toks.keep (hs.mem (.anchor w []) (by simp)), own_rd (t := 63) (c := c4) hs (by simp)⟩) ?_; simp -implicitDefEqProofs (disch := omega) only [go_sem]; exact hq)) ?_
    repeat (first | refine ToO_step (fun Q hq => by (simp -implicitDefEqProofs (disch := omega) only [go_sem]; exact hq)) ?_ | refine ToO_guard (by (simp -implicitDefEqProofs only [go_sem]; first | done | fail)) (fun Q hq => by (simp -implicitDefEqProofs (disch := omega) only [go_sem]; exact hq)) ?_ | refine ToO_skip (.inl (by (simp -implicitDefEqProofs only [go_sem]; first | done | fail))) ?_ | refine ToO_skip (.inr (by (simp -implicitDefEqProofs only [go_sem]; first | done | fail))) ?_)
    first | refine ToO_step (fun Q hq => by (simp -implicitDefEqProofs (disch := omega) only [go_sem]; refine RCall_eqS (fun w1 hs => rnode_right n a1 a2 c1 c2 (by omega) (by omega) w1 (hm.keep (hs.mem (.anchor w []) (by simp)))) ?_; simp -implicitDefEqProofs (disch := omega) only [go_sem]; exact hq)) ?_ | refine ToO_guard (by (simp -implicitDefEqProofs only [go_sem]; first | done | fail)) (fun Q hq => by (simp -implicitDefEqProofs (disch := omega) only [go_sem]; refine RCall_eqS (fun w1 hs => rnode_right n a1 a2 c1 c2 (by omega) (by omega) w1 (hm.keep (hs.mem (.anchor w []) (by simp)))) ?_; simp -implicitDefEqProofs (disch := omega) only [go_sem]; exact hq)) ?_
    repeat (first | refine ToO_step (fun Q hq => by (simp -implicitDefEqProofs (disch := omega) only [go_sem, beq_b, decide_true]; exact hq)) ?_ | refine ToO_guard (by (simp -implicitDefEqProofs only [go_sem, beq_b, decide_true]; first | done | fail)) (fun Q hq => by (simp -implicitDefEqProofs (disch := omega) only [go_sem, beq_b, decide_true]; exact hq)) ?_ | refine ToO_skip (.inl (by (simp -implicitDefEqProofs only [go_sem, beq_b, decide_true]; first | done | fail))) ?_ | refine ToO_skip (.inr (by (simp -implicitDefEqProofs only [go_sem, beq_b, decide_true]; first | done | fail))) ?_)
    first | refine ToO_step (fun Q hq => by (simp -implicitDefEqProofs (disch := omega) only [go_sem]; refine RCall_eq (node_token t) ?_; simp -implicitDefEqProofs (disch := omega) only [go_sem]; exact hq)) ?_ | refine ToO_guard (by (simp -implicitDefEqProofs only [go_sem]; first | done | fail)) (fun Q hq => by (simp -implicitDefEqProofs (disch := omega) only [go_sem]; refine RCall_eq (node_token t) ?_; simp -implicitDefEqProofs (disch := omega) only [go_sem]; exact hq)) ?_
    repeat (first | refine ToO_step (fun Q hq => by (simp -implicitDefEqProofs (disch := omega) only [go_sem, beq_b, decide_true]; exact hq)) ?_ | refine ToO_guard (by (simp -implicitDefEqProofs only [go_sem, beq_b, decide_true]; first | done | fail)) (fun Q hq => by (simp -implicitDefEqProofs (disch := omega) only [go_sem, beq_b, decide_true]; exact hq)) ?_ | refine ToO_skip (.inl (by (simp -implicitDefEqProofs only [go_sem, beq_b, decide_true]; first | done | fail))) ?_ | refine ToO_skip (.inr (by (simp -implicitDefEqProofs only [go_sem, beq_b, decide_true]; first | done | fail))) ?_)
    first | refine ToO_step (fun Q hq => by (simp -implicitDefEqProofs (disch := omega) only [go_sem]; refine RCall_eq (rnode_token t) ?_; simp -implicitDefEqProofs (disch := omega) only [go_sem]; exact hq)) ?_ | refine ToO_guard (by (simp -implicitDefEqProofs only [go_sem]; first | done | fail)) (fun Q hq => by (simp -implicitDefEqProofs (disch := omega) only [go_sem]; refine RCall_eq (rnode_token t) ?_; simp -implicitDefEqProofs (disch := omega) only [go_sem]; exact hq)) ?_
    repeat (first | refine ToO_step (fun Q hq => by (simp -implicitDefEqProofs (disch := omega) only [go_sem, beq_b, decide_true]; exact hq)) ?_ | refine ToO_guard (by (simp -implicitDefEqProofs only [go_sem, beq_b, decide_true]; first | done | fail)) (fun Q hq => by (simp -implicitDefEqProofs (disch := omega) only [go_sem, beq_b, decide_true]; exact hq)) ?_ | refine ToO_skip (.inl (by (simp -implicitDefEqProofs only [go_sem, beq_b, decide_true]; first | done | fail))) ?_ | refine ToO_skip (.inr (by (simp -implicitDefEqProofs only [go_sem, beq_b, decide_true]; first | done | fail))) ?_)
    first | refine ToO_step (fun Q hq => by (simp -implicitDefEqProofs (disch := omega) only [go_sem]; refine RCall_eq (node_known) ?_; simp -implicitDefEqProofs (disch := omega) only [go_sem]; exact hq)) ?_ | refine ToO_guard (by (simp -implicitDefEqProofs only [go_sem]; first | done | fail)) (fun Q hq => by (simp -implicitDefEqProofs (disch := omega) only [go_sem]; refine RCall_eq (node_known) ?_; simp -implicitDefEqProofs (disch := omega) only [go_sem]; exact hq)) ?_
    repeat (first | refine ToO_step (fun Q hq => by (simp -implicitDefEqProofs (disch := omega) only [go_sem]; exact hq)) ?_ | refine ToO_guard (by (simp -implicitDefEqProofs only [go_sem]; first | done | fail)) (fun Q hq => by (simp -implicitDefEqProofs (disch := omega) only [go_sem]; exact hq)) ?_ | refine ToO_skip (.inl (by (simp -implicitDefEqProofs only [go_sem]; first | done | fail))) ?_ | refine ToO_skip (.inr (by (simp -implicitDefEqProofs only [go_sem]; first | done | fail))) ?_)
    refine ToO_nil ?_
    simp -implicitDefEqProofs (disch := omega) only [go_sem]
    exact hQ _ _ fun w' hs => ⟨rfl, hs.anchor (by simp)⟩
end Go.Proofs.Ytlmbebnpnnkhmaa
