/- node's laws: the walks: there and back. -/
import Derived.Test.YtlmbebnpnnkhmaaNodeO
namespace Go.Proofs.Ytlmbebnpnnkhmaa
set_option linter.unusedSimpArgs false
set_option linter.unusedVariables false
open H
theorem strV_addz (b : List UInt8) (c : UInt8) (h : b.length ≤ 9223372036854775806) : strV .add ⟨b.toArray⟩ ⟨#[c]⟩ = some (str (b ++ [c])) := strV_add b [c] (by simp; omega)
theorem parse_more (n : Nd.N) (h : Nd.right n = true) : Nd.parse (Nd.bytes n ++ [0]) = (Nd.n0, 2) := by
  unfold Nd.parse
  rw [if_pos (by rw [List.length_append, Nd.bytes_len h]; decide)]
theorem strV_nil : strV .eql ⟨(List.toArray ([] : List UInt8))⟩ ⟨#[]⟩ = some (.bool true) := by
  have := strV_eql [] []
  rw [decide_eq_true rfl] at this; exact this
set_option maxRecDepth 20000 in
set_option maxHeartbeats 4000000 in
theorem law_nback (n : Nd.N) (a1 a2 : Option Addr) (c1 c2 : Nat) (w : World) (hm : Nd.Mem w n a1 a2) : Does Try.prog 5 #[Nd.nV n a1 c1 a2 c2] w fun v w' => v = .bool true ∧ Ext [] w w' := by
  unfold Nd.nV
  refine does (args := [.agg #[.bool n.leaf, .slice a1 n.toks.length c1, .slice a2 n.kids.length c2]]) Try.func5 rfl (by kernel_rfl) (by kernel_rfl) rfl ent_5 (Sat.start w []) ?_; intro QV hQ
  simp -implicitDefEqProofs (disch := omega) only [go_sem]
  refine RNew_intro fun g hg => ?_
  simp only [below_cons, below_nil, under_anchor, and_true] at hg
  simp -implicitDefEqProofs (disch := omega) only [go_sem]
  refine RCall_eq (law_light n a1 a2 c1 c2) ?_
  by_cases h1 : n.toks.length ≤ 100 ∧ n.kids.length ≤ 100
  rotate_left
  · simp -implicitDefEqProofs (disch := omega) only [go_sem, h1, decide_false]
    refine RCall_eq node_known ?_
    simp -implicitDefEqProofs (disch := omega) only [go_sem]
    exact hQ _ _ fun w' hs => ⟨rfl, hs.anchor (by simp)⟩
  simp -implicitDefEqProofs (disch := omega) only [go_sem, decide_eq_true h1]
  refine RCall_newS (fun w1 hs => law_given n a1 a2 c1 c2 (by omega) w1 (hm.keep (hs.mem (.anchor w []) (by simp)))) ?_
  rintro _ rs ⟨a3, c3, rfl, hc3, rfl⟩ _
  unfold Nd.nV
  simp -implicitDefEqProofs (disch := omega) only [go_sem]
  have hB := fun w1 hs => node_build n a1 a3 c1 c3 (by omega) (by omega) w1 hs
  cases hr : Nd.right n with
  | false =>
    have hb : Nd.build n = ([], 4) := by unfold Nd.build; rw [if_neg (by rw [hr]; simp)]
    rw [hb] at hB
    refine RCall_eqS (fun w1 hs => hB w1 ⟨hm.toks.keep (hs.mem (.anchor w []) (by simp)), own_rd (t := 63) (c := c3) hs (by simp)⟩) ?_
    simp -implicitDefEqProofs (disch := omega) only [go_sem, strV_nil]
    refine RCall_newS (fun w1 hs => law_given n a1 a2 c1 c2 (by omega) w1 (hm.keep (hs.mem (.anchor w []) (by simp)))) ?_
    rintro _ rs ⟨a4, c4, rfl, hc4, rfl⟩ _
    unfold Nd.nV
    simp -implicitDefEqProofs (disch := omega) only [go_sem]
    refine RCall_eqS (u := .bool false) (fun w1 hs => ?_) ?_
    · have := node_right n a1 a4 c1 c4 (by omega) (by omega) w1 ⟨hm.toks.keep (hs.mem (.anchor w []) (by simp)), own_rd (t := 63) (c := c4) hs (by simp)⟩
      rw [hr] at this
      exact this
    simp -implicitDefEqProofs (disch := omega) only [go_sem]
    refine RCall_eq node_known ?_
    simp -implicitDefEqProofs (disch := omega) only [go_sem]
    exact hQ _ _ fun w' hs => ⟨rfl, hs.anchor (by simp)⟩
  | true =>
  have hb : Nd.build n = (Nd.bytes n, 0) := by unfold Nd.build; rw [if_pos hr]
  rw [hb] at hB
  have hpb := Nd.parse_bytes hr
  have hpm := parse_more n hr
  have hbl := Nd.bytes_len hr
  generalize Nd.bytes n = b at *
  refine RCall_eqS (fun w1 hs => hB w1 ⟨hm.toks.keep (hs.mem (.anchor w []) (by simp)), own_rd (t := 63) (c := c3) hs (by simp)⟩) ?_
  simp -implicitDefEqProofs (disch := omega) only [go_sem, decide_true]
  refine RCall_newS (fun w1 hs => node_parse b (by omega) w1) ?_
  rw [hpb]
  rintro _ rs ⟨_, rfl, b1, d1, b2, d2, rfl, hd1, hd2, rfl⟩ _
  unfold Nd.nV
  simp -implicitDefEqProofs (disch := omega) only [go_sem]
  refine RNew_intro fun g2 hg2 => ?_
  have ng : g ≠ g2 := by obtain ⟨_, _, _, h, _⟩ := hg2; exact Nat.ne_of_lt h
  simp -implicitDefEqProofs (disch := omega) only [go_sem, strV_addz]
  refine RCall_newS (fun w1 hs => node_parse (b ++ [0]) (by rw [List.length_append]; simp; omega) w1) ?_
  rw [hpm]
  rintro _ rs ⟨_, rfl, b3, d3, b4, d4, rfl, hd3, hd4, rfl⟩ _
  unfold Nd.nV
  simp -implicitDefEqProofs (disch := omega) only [go_sem]
  refine RNew_intro fun g3 hg3 => ?_
  have ng3 : g ≠ g3 := by obtain ⟨_, _, _, _, _, _, h, _⟩ := hg3; exact Nat.ne_of_lt h
  have ng23 : g2 ≠ g3 := by obtain ⟨_, _, h, _⟩ := hg3; exact Nat.ne_of_lt h
  simp -implicitDefEqProofs (disch := omega) only [go_sem]
  have hM : ∀ w1 h, Sat w1 h → Own 27 3 (.slice b1 n.toks.length d1) n.toks.length (n.toks.flatMap Tok.tkC) ∈ h → Own 63 3 (.slice b2 n.kids.length d2) n.kids.length (n.kids.flatMap Tok.tkC) ∈ h → Nd.Mem w1 n b1 b2 := fun w1 h hs m1 m2 => ⟨own_rd hs m1, own_rd hs m2⟩
  have hself : decide (n = n) = true := decide_eq_true rfl
  have i252' : decide (((252 : Nat) : Int) = 252) = true := rfl
  refine RDraw_seg (by kernel_rfl) (by kernel_rfl) 21 rfl ?_
  change RS _ _ [0, 1, 2, 3, 4, 5, 6, 7, 8, 9, 10, 11, 12, 13, 14, 15, 16, 17, 18, 19, 20] _ _ _
  refine RS_via [3, 4, 5, 6, 7, 8, 9, 10, 11, 12, 13, 14, 15, 16, 17, 18, 19, 20] (fun f h => ∃ a4 c4, n.kids.length ≤ c4 ∧ f 3 = str b ∧ f 6 = .int .i64 0 ∧ f 8 = .int .i64 2 ∧ f 44 = Nd.nV n b1 d1 a4 c4 ∧ f 45 = Nd.nV n a1 c1 a2 c2 ∧ Own 65 3 (.slice a4 n.kids.length c4) n.kids.length (n.kids.flatMap Tok.tkC) ∈ h ∧ Own 27 3 (.slice b1 n.toks.length d1) n.toks.length (n.toks.flatMap Tok.tkC) ∈ h ∧ Res.anchor w [] ∈ h) (fun K' hI => ?_) ?_
  · refine RS_first [0, 2] (by kernel_rfl) ⟨?_, ?_, trivial⟩
    · simp -implicitDefEqProofs (disch := omega) only [go_sem]
      refine RS_first [1, 2] (by kernel_rfl) ⟨?_, ?_, trivial⟩
      · simp -implicitDefEqProofs (disch := omega) only [go_sem]
        refine RCall_newS (fun w1 hs => law_taken n b1 b2 d1 d2 (by omega) w1 (hM w1 _ hs (by simp) (by simp))) ?_
        rintro _ rs ⟨a4, c4, rfl, hc4, rfl⟩ _
        simp -implicitDefEqProofs (disch := omega) only [go_sem]
        refine RS_first [2] (by kernel_rfl) ⟨?_, trivial⟩
        simp -implicitDefEqProofs (disch := omega) only [go_sem]
        exact hI _ _ ⟨a4, c4, hc4, by (first | (simp -implicitDefEqProofs (disch := omega) only [go_sem]; done) | (simp -implicitDefEqProofs (disch := omega) only [go_sem]; rfl)), by (first | (simp -implicitDefEqProofs (disch := omega) only [go_sem]; done) | (simp -implicitDefEqProofs (disch := omega) only [go_sem]; rfl)), by (first | (simp -implicitDefEqProofs (disch := omega) only [go_sem]; done) | (simp -implicitDefEqProofs (disch := omega) only [go_sem]; rfl)), by (first | (simp -implicitDefEqProofs (disch := omega) only [go_sem]; done) | (simp -implicitDefEqProofs (disch := omega) only [go_sem]; rfl)), by (first | (simp -implicitDefEqProofs (disch := omega) only [go_sem]; done) | (simp -implicitDefEqProofs (disch := omega) only [go_sem]; rfl)), by simp, by simp, by simp⟩
      · simp -implicitDefEqProofs (disch := omega) only [go_sem]
        refine RS_first [1] (by kernel_rfl) ⟨?_, trivial⟩
        simp -implicitDefEqProofs (disch := omega) only [go_sem]
        refine RCall_newS (fun w1 hs => law_taken n b1 b2 d1 d2 (by omega) w1 (hM w1 _ hs (by simp) (by simp))) ?_
        rintro _ rs ⟨a4, c4, rfl, hc4, rfl⟩ _
        simp -implicitDefEqProofs (disch := omega) only [go_sem]
        exact hI _ _ ⟨a4, c4, hc4, by (first | (simp -implicitDefEqProofs (disch := omega) only [go_sem]; done) | (simp -implicitDefEqProofs (disch := omega) only [go_sem]; rfl)), by (first | (simp -implicitDefEqProofs (disch := omega) only [go_sem]; done) | (simp -implicitDefEqProofs (disch := omega) only [go_sem]; rfl)), by (first | (simp -implicitDefEqProofs (disch := omega) only [go_sem]; done) | (simp -implicitDefEqProofs (disch := omega) only [go_sem]; rfl)), by (first | (simp -implicitDefEqProofs (disch := omega) only [go_sem]; done) | (simp -implicitDefEqProofs (disch := omega) only [go_sem]; rfl)), by (first | (simp -implicitDefEqProofs (disch := omega) only [go_sem]; done) | (simp -implicitDefEqProofs (disch := omega) only [go_sem]; rfl)), by simp, by simp, by simp⟩
    · simp -implicitDefEqProofs (disch := omega) only [go_sem]
      refine RS_first [0] (by kernel_rfl) ⟨?_, trivial⟩
      simp -implicitDefEqProofs (disch := omega) only [go_sem]
      refine RS_first [1] (by kernel_rfl) ⟨?_, trivial⟩
      simp -implicitDefEqProofs (disch := omega) only [go_sem]
      refine RCall_newS (fun w1 hs => law_taken n b1 b2 d1 d2 (by omega) w1 (hM w1 _ hs (by simp) (by simp))) ?_
      rintro _ rs ⟨a4, c4, rfl, hc4, rfl⟩ _
      simp -implicitDefEqProofs (disch := omega) only [go_sem]
      exact hI _ _ ⟨a4, c4, hc4, by (first | (simp -implicitDefEqProofs (disch := omega) only [go_sem]; done) | (simp -implicitDefEqProofs (disch := omega) only [go_sem]; rfl)), by (first | (simp -implicitDefEqProofs (disch := omega) only [go_sem]; done) | (simp -implicitDefEqProofs (disch := omega) only [go_sem]; rfl)), by (first | (simp -implicitDefEqProofs (disch := omega) only [go_sem]; done) | (simp -implicitDefEqProofs (disch := omega) only [go_sem]; rfl)), by (first | (simp -implicitDefEqProofs (disch := omega) only [go_sem]; done) | (simp -implicitDefEqProofs (disch := omega) only [go_sem]; rfl)), by (first | (simp -implicitDefEqProofs (disch := omega) only [go_sem]; done) | (simp -implicitDefEqProofs (disch := omega) only [go_sem]; rfl)), by simp, by simp, by simp⟩
  · rintro f h ⟨a4, c4, hc4, e3, e6, e8, e44, e45, m1, m2, m3⟩
    refine RS_det (by kernel_rfl) ?_
    first | refine ToO_step (fun Q hq => by (simp -implicitDefEqProofs (disch := omega) only [go_sem, e3, e6, e8, e44, e45]; refine RCall_eqS (fun w1 hs => by have := rnode_same n n b1 a4 a1 a2 d1 c4 c1 c2 (by omega) (by omega) w1 ⟨own_rd (t := 27) (c := d1) hs m2, own_rd (t := 65) (c := c4) hs m1⟩ (hm.keep (hs.mem _ m3)); rw [hself] at this; exact this) ?_; simp -implicitDefEqProofs (disch := omega) only [go_sem, e3, e6, e8, e44, e45]; exact hq)) ?_ | refine ToO_guard (by (simp -implicitDefEqProofs only [go_sem, e3, e6, e8, e44, e45]; first | done | fail)) (fun Q hq => by (simp -implicitDefEqProofs (disch := omega) only [go_sem, e3, e6, e8, e44, e45]; refine RCall_eqS (fun w1 hs => by have := rnode_same n n b1 a4 a1 a2 d1 c4 c1 c2 (by omega) (by omega) w1 ⟨own_rd (t := 27) (c := d1) hs m2, own_rd (t := 65) (c := c4) hs m1⟩ (hm.keep (hs.mem _ m3)); rw [hself] at this; exact this) ?_; simp -implicitDefEqProofs (disch := omega) only [go_sem, e3, e6, e8, e44, e45]; exact hq)) ?_
    repeat (first | refine ToO_step (fun Q hq => by (simp -implicitDefEqProofs (disch := omega) only [go_sem, e3, e6, e8, e44, e45, hbl, i252', decide_true]; exact hq)) ?_ | refine ToO_guard (by (simp -implicitDefEqProofs only [go_sem, e3, e6, e8, e44, e45, hbl, i252', decide_true]; first | done | fail)) (fun Q hq => by (simp -implicitDefEqProofs (disch := omega) only [go_sem, e3, e6, e8, e44, e45, hbl, i252', decide_true]; exact hq)) ?_ | refine ToO_skip (.inl (by (simp -implicitDefEqProofs only [go_sem, e3, e6, e8, e44, e45, hbl, i252', decide_true]; first | done | fail))) ?_ | refine ToO_skip (.inr (by (simp -implicitDefEqProofs only [go_sem, e3, e6, e8, e44, e45, hbl, i252', decide_true]; first | done | fail))) ?_)
    first | refine ToO_step (fun Q hq => by (simp -implicitDefEqProofs (disch := omega) only [go_sem, e3, e6, e8, e44, e45]; refine RCall_eq (node_known) ?_; simp -implicitDefEqProofs (disch := omega) only [go_sem, e3, e6, e8, e44, e45]; exact hq)) ?_ | refine ToO_guard (by (simp -implicitDefEqProofs only [go_sem, e3, e6, e8, e44, e45]; first | done | fail)) (fun Q hq => by (simp -implicitDefEqProofs (disch := omega) only [go_sem, e3, e6, e8, e44, e45]; refine RCall_eq (node_known) ?_; simp -implicitDefEqProofs (disch := omega) only [go_sem, e3, e6, e8, e44, e45]; exact hq)) ?_
    repeat (first | refine ToO_step (fun Q hq => by (simp -implicitDefEqProofs (disch := omega) only [go_sem, e3, e6, e8, e44, e45]; exact hq)) ?_ | refine ToO_guard (by (simp -implicitDefEqProofs only [go_sem, e3, e6, e8, e44, e45]; first | done | fail)) (fun Q hq => by (simp -implicitDefEqProofs (disch := omega) only [go_sem, e3, e6, e8, e44, e45]; exact hq)) ?_ | refine ToO_skip (.inl (by (simp -implicitDefEqProofs only [go_sem, e3, e6, e8, e44, e45]; first | done | fail))) ?_ | refine ToO_skip (.inr (by (simp -implicitDefEqProofs only [go_sem, e3, e6, e8, e44, e45]; first | done | fail))) ?_)
    refine ToO_nil ?_
    simp -implicitDefEqProofs (disch := omega) only [go_sem]
    exact hQ _ _ fun w' hs => ⟨rfl, hs.anchor m3⟩
end Go.Proofs.Ytlmbebnpnnkhmaa
