/- node's laws: the walks: what is read. -/
import Derived.Test.YtlmbebnpnnkhmaaNodeL
namespace Go.Proofs.Ytlmbebnpnnkhmaa
set_option linter.unusedSimpArgs false
set_option linter.unusedVariables false
open H
set_option maxRecDepth 20000 in
set_option maxHeartbeats 4000000 in
theorem law_nparses (s : List UInt8) (hsl : s.length ≤ 9223372036854775807) (w : World) : Does Try.prog 4 #[str s] w fun v w' => v = .bool true ∧ Ext [] w w' := by
  refine does (args := [str s]) Try.func4 rfl (by kernel_rfl) (by kernel_rfl) rfl ent_4 (Sat.start w []) ?_; intro QV hQ
  by_cases h1 : (1000 : Int) < (s.length : Int)
  · simp -implicitDefEqProofs (disch := omega) only [go_sem, h1, decide_true]
    refine RCall_eq node_known ?_
    simp -implicitDefEqProofs (disch := omega) only [go_sem]
    exact hQ _ _ fun w' hs => ⟨rfl, hs.anchor (by simp)⟩
  simp -implicitDefEqProofs (disch := omega) only [go_sem, h1, decide_false]
  refine RCall_newS (fun w1 hs => node_parse s hsl w1) ?_
  rintro _ rs ⟨_, rfl, a1, c1, a2, c2, rfl, hc1, hc2, rfl⟩ _
  have hsm := Nd.parse_small s
  unfold Nd.nV
  simp -implicitDefEqProofs (disch := omega) only [go_sem]
  refine RNew_intro fun g hg => ?_
  simp -implicitDefEqProofs (disch := omega) only [go_sem]
  refine RCall_newS (fun w1 hs => rnode_parse s hsl w1) ?_
  rintro _ rs ⟨_, rfl, b1, d1, b2, d2, rfl, hd1, hd2, rfl⟩ _
  generalize Nd.parse s = p at *
  obtain ⟨n, e⟩ := p
  simp only [] at hsm hc1 hc2 hd1 hd2
  unfold Nd.nV
  simp -implicitDefEqProofs (disch := omega) only [go_sem]
  refine RNew_intro fun g2 hg2 => ?_
  have ng : g ≠ g2 := by obtain ⟨_, _, h, _⟩ := hg2; exact Nat.ne_of_lt h
  simp -implicitDefEqProofs (disch := omega) only [go_sem]
  have hM : ∀ w1 h, Sat w1 h → Own 27 3 (.slice a1 n.toks.length c1) n.toks.length (n.toks.flatMap Tok.tkC) ∈ h → Own 63 3 (.slice a2 n.kids.length c2) n.kids.length (n.kids.flatMap Tok.tkC) ∈ h → Nd.Mem w1 n a1 a2 := fun w1 h hs m1 m2 => ⟨own_rd hs m1, own_rd hs m2⟩
  generalize hH : [Res.cells g2 25 #[.bool n.leaf, .slice b1 n.toks.length d1, .slice b2 n.kids.length d2], Own 27 3 (.slice b1 n.toks.length d1) n.toks.length (n.toks.flatMap Tok.tkC), Own 65 3 (.slice b2 n.kids.length d2) n.kids.length (n.kids.flatMap Tok.tkC), Res.cells g 35 #[.bool n.leaf, .slice a1 n.toks.length c1, .slice a2 n.kids.length c2], Own 27 3 (.slice a1 n.toks.length c1) n.toks.length (n.toks.flatMap Tok.tkC), Own 63 3 (.slice a2 n.kids.length c2) n.kids.length (n.kids.flatMap Tok.tkC), .anchor w []] = H at *
  refine RDraw_seg (by kernel_rfl) (by kernel_rfl) 13 rfl ?_
  change RS _ _ [0, 1, 2, 3, 4, 5, 6, 7, 8, 9, 10, 11, 12] _ _ _
  refine RS_via [3, 4, 5, 6, 7, 8, 9, 10, 11, 12] (fun f h => ∃ a3 c3, n.kids.length ≤ c3 ∧ f 4 = .int .i64 e ∧ f 6 = .int .i64 e ∧ f 22 = Nd.nV n a1 c1 a3 c3 ∧ f 23 = Nd.nV n b1 d1 b2 d2 ∧ h = Own 65 3 (.slice a3 n.kids.length c3) n.kids.length (n.kids.flatMap Tok.tkC) :: H) (fun K' hI => ?_) ?_
  · subst hH
    refine RS_first [0, 2] (by kernel_rfl) ⟨?_, ?_, trivial⟩
    · simp -implicitDefEqProofs (disch := omega) only [go_sem]
      refine RS_first [1, 2] (by kernel_rfl) ⟨?_, ?_, trivial⟩
      · simp -implicitDefEqProofs (disch := omega) only [go_sem]
        refine RCall_newS (fun w1 hs => law_taken n a1 a2 c1 c2 (by omega) w1 (hM w1 _ hs (by simp) (by simp))) ?_
        rintro _ rs ⟨a3, c3, rfl, hc3, rfl⟩ _
        simp -implicitDefEqProofs (disch := omega) only [go_sem]
        refine RS_first [2] (by kernel_rfl) ⟨?_, trivial⟩
        simp -implicitDefEqProofs (disch := omega) only [go_sem]
        exact hI _ _ ⟨a3, c3, hc3, by (first | (simp -implicitDefEqProofs (disch := omega) only [go_sem]; done) | (simp -implicitDefEqProofs (disch := omega) only [go_sem]; rfl)), by (first | (simp -implicitDefEqProofs (disch := omega) only [go_sem]; done) | (simp -implicitDefEqProofs (disch := omega) only [go_sem]; rfl)), by (first | (simp -implicitDefEqProofs (disch := omega) only [go_sem]; done) | (simp -implicitDefEqProofs (disch := omega) only [go_sem]; rfl)), by (first | (simp -implicitDefEqProofs (disch := omega) only [go_sem]; done) | (simp -implicitDefEqProofs (disch := omega) only [go_sem]; rfl)), rfl⟩
      · simp -implicitDefEqProofs (disch := omega) only [go_sem]
        refine RS_first [1] (by kernel_rfl) ⟨?_, trivial⟩
        simp -implicitDefEqProofs (disch := omega) only [go_sem]
        refine RCall_newS (fun w1 hs => law_taken n a1 a2 c1 c2 (by omega) w1 (hM w1 _ hs (by simp) (by simp))) ?_
        rintro _ rs ⟨a3, c3, rfl, hc3, rfl⟩ _
        simp -implicitDefEqProofs (disch := omega) only [go_sem]
        exact hI _ _ ⟨a3, c3, hc3, by (first | (simp -implicitDefEqProofs (disch := omega) only [go_sem]; done) | (simp -implicitDefEqProofs (disch := omega) only [go_sem]; rfl)), by (first | (simp -implicitDefEqProofs (disch := omega) only [go_sem]; done) | (simp -implicitDefEqProofs (disch := omega) only [go_sem]; rfl)), by (first | (simp -implicitDefEqProofs (disch := omega) only [go_sem]; done) | (simp -implicitDefEqProofs (disch := omega) only [go_sem]; rfl)), by (first | (simp -implicitDefEqProofs (disch := omega) only [go_sem]; done) | (simp -implicitDefEqProofs (disch := omega) only [go_sem]; rfl)), rfl⟩
    · simp -implicitDefEqProofs (disch := omega) only [go_sem]
      refine RS_first [0] (by kernel_rfl) ⟨?_, trivial⟩
      simp -implicitDefEqProofs (disch := omega) only [go_sem]
      refine RS_first [1] (by kernel_rfl) ⟨?_, trivial⟩
      simp -implicitDefEqProofs (disch := omega) only [go_sem]
      refine RCall_newS (fun w1 hs => law_taken n a1 a2 c1 c2 (by omega) w1 (hM w1 _ hs (by simp) (by simp))) ?_
      rintro _ rs ⟨a3, c3, rfl, hc3, rfl⟩ _
      simp -implicitDefEqProofs (disch := omega) only [go_sem]
      exact hI _ _ ⟨a3, c3, hc3, by (first | (simp -implicitDefEqProofs (disch := omega) only [go_sem]; done) | (simp -implicitDefEqProofs (disch := omega) only [go_sem]; rfl)), by (first | (simp -implicitDefEqProofs (disch := omega) only [go_sem]; done) | (simp -implicitDefEqProofs (disch := omega) only [go_sem]; rfl)), by (first | (simp -implicitDefEqProofs (disch := omega) only [go_sem]; done) | (simp -implicitDefEqProofs (disch := omega) only [go_sem]; rfl)), by (first | (simp -implicitDefEqProofs (disch := omega) only [go_sem]; done) | (simp -implicitDefEqProofs (disch := omega) only [go_sem]; rfl)), rfl⟩
  · rintro f h ⟨a3, c3, hc3, e4, e6, e22, e23, rfl⟩
    subst hH
    have hself : decide (n = n) = true := decide_eq_true rfl
    refine RS_det (by kernel_rfl) ?_
    first | refine ToO_step (fun Q hq => by (simp -implicitDefEqProofs (disch := omega) only [go_sem, e4, e6, e22, e23]; refine RCall_eqS (fun w1 hs => by have := rnode_same n n a1 a3 b1 b2 c1 c3 d1 d2 (by omega) (by omega) w1 ⟨own_rd (t := 27) (c := c1) hs (by simp), own_rd (t := 65) (c := c3) hs (by simp)⟩ ⟨own_rd (t := 27) (c := d1) hs (by simp), own_rd (t := 65) (c := d2) hs (by simp)⟩; rw [hself] at this; exact this) ?_; simp -implicitDefEqProofs (disch := omega) only [go_sem, e4, e6, e22, e23]; exact hq)) ?_ | refine ToO_guard (by (simp -implicitDefEqProofs only [go_sem, e4, e6, e22, e23]; first | done | fail)) (fun Q hq => by (simp -implicitDefEqProofs (disch := omega) only [go_sem, e4, e6, e22, e23]; refine RCall_eqS (fun w1 hs => by have := rnode_same n n a1 a3 b1 b2 c1 c3 d1 d2 (by omega) (by omega) w1 ⟨own_rd (t := 27) (c := c1) hs (by simp), own_rd (t := 65) (c := c3) hs (by simp)⟩ ⟨own_rd (t := 27) (c := d1) hs (by simp), own_rd (t := 65) (c := d2) hs (by simp)⟩; rw [hself] at this; exact this) ?_; simp -implicitDefEqProofs (disch := omega) only [go_sem, e4, e6, e22, e23]; exact hq)) ?_
    repeat (first | refine ToO_step (fun Q hq => by (simp -implicitDefEqProofs (disch := omega) only [go_sem, e4, e6, e22, e23, decide_true]; exact hq)) ?_ | refine ToO_guard (by (simp -implicitDefEqProofs only [go_sem, e4, e6, e22, e23, decide_true]; first | done | fail)) (fun Q hq => by (simp -implicitDefEqProofs (disch := omega) only [go_sem, e4, e6, e22, e23, decide_true]; exact hq)) ?_ | refine ToO_skip (.inl (by (simp -implicitDefEqProofs only [go_sem, e4, e6, e22, e23, decide_true]; first | done | fail))) ?_ | refine ToO_skip (.inr (by (simp -implicitDefEqProofs only [go_sem, e4, e6, e22, e23, decide_true]; first | done | fail))) ?_)
    first | refine ToO_step (fun Q hq => by (simp -implicitDefEqProofs (disch := omega) only [go_sem, e4, e6, e22, e23]; refine RCall_eq (node_known) ?_; simp -implicitDefEqProofs (disch := omega) only [go_sem, e4, e6, e22, e23]; exact hq)) ?_ | refine ToO_guard (by (simp -implicitDefEqProofs only [go_sem, e4, e6, e22, e23]; first | done | fail)) (fun Q hq => by (simp -implicitDefEqProofs (disch := omega) only [go_sem, e4, e6, e22, e23]; refine RCall_eq (node_known) ?_; simp -implicitDefEqProofs (disch := omega) only [go_sem, e4, e6, e22, e23]; exact hq)) ?_
    repeat (first | refine ToO_step (fun Q hq => by (simp -implicitDefEqProofs (disch := omega) only [go_sem, e4, e6, e22, e23]; exact hq)) ?_ | refine ToO_guard (by (simp -implicitDefEqProofs only [go_sem, e4, e6, e22, e23]; first | done | fail)) (fun Q hq => by (simp -implicitDefEqProofs (disch := omega) only [go_sem, e4, e6, e22, e23]; exact hq)) ?_ | refine ToO_skip (.inl (by (simp -implicitDefEqProofs only [go_sem, e4, e6, e22, e23]; first | done | fail))) ?_ | refine ToO_skip (.inr (by (simp -implicitDefEqProofs only [go_sem, e4, e6, e22, e23]; first | done | fail))) ?_)
    refine ToO_nil ?_
    simp -implicitDefEqProofs (disch := omega) only [go_sem]
    exact hQ _ _ fun w' hs => ⟨rfl, hs.anchor (by simp)⟩
end Go.Proofs.Ytlmbebnpnnkhmaa
