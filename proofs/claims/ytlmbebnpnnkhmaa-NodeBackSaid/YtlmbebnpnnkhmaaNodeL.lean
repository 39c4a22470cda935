/- node's laws: the walks. -/
import Derived.Test.YtlmbebnpnnkhmaaNodeK
namespace Go.Proofs.Ytlmbebnpnnkhmaa
set_option linter.unusedSimpArgs false
set_option linter.unusedVariables false
open H
namespace Nd
theorem parse_small (s : List UInt8) : (parse s).1.toks.length ≤ 255 ∧ (parse s).1.kids.length ≤ 255 := by
  have hc := cnt_lt s
  have h0 : n0.toks.length ≤ 255 ∧ n0.kids.length ≤ 255 := by decide
  unfold parse
  split
  · exact h0
  · split
    · unfold unp
      simp only []
      constructor
      · split
        · simp; omega
        · simp
      · split
        · simp
        · simp; omega
    · exact h0
theorem parse_ok {s : List UInt8} (h : (parse s).2 = 0) : build (parse s).1 = (s, 0) := by
  unfold parse at h ⊢
  split at h
  · exact absurd h (by decide)
  · rename_i h1
    rw [if_neg h1]
    split at h
    · rename_i h2
      rw [if_pos h2]; exact h2
    · exact absurd h (by decide)
theorem parse_err {s : List UInt8} (h : ¬ (parse s).2 = 0) : (parse s).1 = n0 := by
  unfold parse at h ⊢
  split
  · rfl
  · rename_i h1
    rw [if_neg h1] at h
    split
    · rename_i h2
      rw [if_pos h2] at h; exact absurd rfl h
    · rfl
theorem build_right {n : N} {s : List UInt8} (h : build n = (s, 0)) : right n = true := by
  unfold build at h
  split at h
  · assumption
  · injection h with _ h2; exact absurd h2 (by decide)
end Nd
set_option maxRecDepth 20000 in
set_option maxHeartbeats 4000000 in
theorem law_nonly (s : List UInt8) (hsl : s.length ≤ 9223372036854775807) (w : World) : Does Try.prog 6 #[str s] w fun v w' => v = .bool true ∧ Ext [] w w' := by
  refine does (args := [str s]) Try.func6 rfl (by kernel_rfl) (by kernel_rfl) rfl ent_6 (Sat.start w []) ?_; intro QV hQ
  by_cases h1 : (1000 : Int) < (s.length : Int)
  · simp -implicitDefEqProofs (disch := omega) only [go_sem, h1, decide_true]
    refine RCall_eq node_known ?_
    simp -implicitDefEqProofs (disch := omega) only [go_sem]
    exact hQ _ _ fun w' hs => ⟨rfl, hs.anchor (by simp)⟩
  simp -implicitDefEqProofs (disch := omega) only [go_sem, h1, decide_false]
  refine RCall_newS (fun w1 hs => node_parse s hsl w1) ?_
  rintro _ rs ⟨_, rfl, a1, c1, a2, c2, rfl, hc1, hc2, rfl⟩ _
  have hsm := Nd.parse_small s
  have hpo := @Nd.parse_ok s
  have hpe := @Nd.parse_err s
  generalize Nd.parse s = p at *
  obtain ⟨n, e⟩ := p
  simp only [] at hpo hpe hsm hc1 hc2
  have hM : ∀ w1 h, Sat w1 h → Own 27 3 (.slice a1 n.toks.length c1) n.toks.length (n.toks.flatMap Tok.tkC) ∈ h → Own 63 3 (.slice a2 n.kids.length c2) n.kids.length (n.kids.flatMap Tok.tkC) ∈ h → Nd.Mem w1 n a1 a2 := fun w1 h hs m1 m2 => ⟨own_rd hs m1, own_rd hs m2⟩
  unfold Nd.nV
  simp -implicitDefEqProofs (disch := omega) only [go_sem]
  refine RNew_intro fun g hg => ?_
  simp -implicitDefEqProofs (disch := omega) only [go_sem]
  by_cases he : e = 0
  rotate_left
  · have hn := hpe he
    simp -implicitDefEqProofs (disch := omega) only [go_sem, he, decide_false]
    refine RCall_newS (fun w1 hs => law_taken n a1 a2 c1 c2 (by omega) w1 (hM w1 _ hs (by simp) (by simp))) ?_
    rintro _ rs ⟨a3, c3, rfl, hc3, rfl⟩ _
    unfold Nd.nV
    simp -implicitDefEqProofs (disch := omega) only [go_sem]
    refine RCall_eqS (u := .bool true) (fun w1 hs => ?_) ?_
    · have := rnode_same n Nd.n0 a1 a3 none none c1 c3 0 0 (by omega) (by omega) w1 ⟨own_rd (t := 27) (c := c1) hs (by simp), own_rd (t := 65) (c := c3) hs (by simp)⟩ ⟨Rd.nil _ _ _ _, Rd.nil _ _ _ _⟩
      rw [decide_eq_true hn] at this
      exact this
    simp -implicitDefEqProofs (disch := omega) only [go_sem]
    refine RCall_eq node_known ?_
    simp -implicitDefEqProofs (disch := omega) only [go_sem]
    exact hQ _ _ fun w' hs => ⟨rfl, hs.anchor (by simp)⟩
  have hb := hpo he
  have hr := Nd.build_right hb
  simp -implicitDefEqProofs (disch := omega) only [go_sem, he, decide_true]
  refine RCall_eqS (u := .tuple #[str s, .int .i64 0]) (fun w1 hs => ?_) ?_
  · have := node_build n a1 a2 c1 c2 (by omega) (by omega) w1 (hM w1 _ hs (by simp) (by simp))
    rw [hb] at this
    exact this
  simp -implicitDefEqProofs (disch := omega) only [go_sem]
  refine RCall_eqS (u := .bool true) (fun w1 hs => ?_) ?_
  · have := node_right n a1 a2 c1 c2 (by omega) (by omega) w1 (hM w1 _ hs (by simp) (by simp))
    rw [hr] at this
    exact this
  simp -implicitDefEqProofs (disch := omega) only [go_sem, decide_true]
  refine RCall_eq node_known ?_
  simp -implicitDefEqProofs (disch := omega) only [go_sem]
  exact hQ _ _ fun w' hs => ⟨rfl, hs.anchor (by simp)⟩
end Go.Proofs.Ytlmbebnpnnkhmaa
