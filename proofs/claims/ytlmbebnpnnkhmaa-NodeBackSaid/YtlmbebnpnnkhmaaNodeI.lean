/- node's law: the walks: nodes turned from one kind to the other; whether two are alike. -/
import Derived.Test.YtlmbebnpnnkhmaaNodeH
namespace Go.Proofs.Ytlmbebnpnnkhmaa
set_option linter.unusedSimpArgs false
set_option linter.unusedVariables false
open H
/-- A node whose kids were laid anew. -/
def Turned (kd : TypeId) (v : Value) (rs : List Res) (n : Nd.N) (a1 : Option Addr) (c1 : Nat) : Prop := ∃ a3 c3, v = Nd.nV n a1 c1 a3 c3 ∧ n.kids.length ≤ c3 ∧ rs = [Own kd 3 (.slice a3 n.kids.length c3) n.kids.length (n.kids.flatMap Tok.tkC)]
theorem Sat.keep14 {w : World} {a b c : Res} {h : List Res} (hs : Sat w (a :: b :: c :: h)) : Sat w ([a] ++ h) := Sat.sublist (.cons_cons _ (.cons _ (.cons _ (List.Sublist.refl h)))) hs
theorem law_light (n : Nd.N) (a1 a2 : Option Addr) (c1 c2 : Nat) (w : World) : Does Try.prog 11 #[Nd.nV n a1 c1 a2 c2] w fun v w' => v = .bool (decide (n.toks.length ≤ 100 ∧ n.kids.length ≤ 100)) ∧ Ext [] w w' := by
  unfold Nd.nV
  refine does (args := [.agg #[.bool n.leaf, .slice a1 n.toks.length c1, .slice a2 n.kids.length c2]]) Try.func11 rfl (by kernel_rfl) (by kernel_rfl) rfl ent_11 (Sat.start w []) ?_; intro QV hQ
  simp -implicitDefEqProofs (disch := omega) only [go_sem]
  refine RNew_intro fun g hg => ?_
  by_cases h1 : (n.toks.length : Int) ≤ 100
  · by_cases h2 : (n.kids.length : Int) ≤ 100
    · simp -implicitDefEqProofs (disch := omega) only [go_sem, h1, h2, decide_true]
      exact hQ _ _ fun w' hs => ⟨by rw [decide_eq_true (by omega)], hs.anchor (by simp)⟩
    · simp -implicitDefEqProofs (disch := omega) only [go_sem, h1, h2, decide_true, decide_false]
      exact hQ _ _ fun w' hs => ⟨by rw [decide_eq_false (by omega)], hs.anchor (by simp)⟩
  · simp -implicitDefEqProofs (disch := omega) only [go_sem, h1, decide_false]
    exact hQ _ _ fun w' hs => ⟨by rw [decide_eq_false (by omega)], hs.anchor (by simp)⟩
set_option maxRecDepth 20000 in
set_option maxHeartbeats 2000000 in
theorem law_given (n : Nd.N) (a1 a2 : Option Addr) (c1 c2 : Nat) (hl2 : n.kids.length ≤ 2147483648) (w : World) (hm : Nd.Mem w n a1 a2) : Does Try.prog 14 #[Nd.nV n a1 c1 a2 c2] w fun v w' => ∃ rs, Sat w' (rs ++ [.anchor w []]) ∧ Turned 63 v rs n a1 c1 := by
  unfold Nd.nV
  refine does (args := [.agg #[.bool n.leaf, .slice a1 n.toks.length c1, .slice a2 n.kids.length c2]]) Try.func14 rfl (by kernel_rfl) (by kernel_rfl) rfl ent_14 (Sat.start w []) ?_; intro QV hQ
  simp -implicitDefEqProofs (disch := omega) only [go_sem]
  refine RNew_intro fun g hg => ?_
  simp only [below_cons, below_nil, under_anchor, and_true] at hg
  simp -implicitDefEqProofs (disch := omega) only [go_sem]
  refine RNew_intro fun g2 hg2 => ?_
  simp only [below_cons, below_nil, under_anchor, under_cells, and_true] at hg2
  have ng : g ≠ g2 := Nat.ne_of_lt hg2.1
  simp -implicitDefEqProofs (disch := omega) only [go_sem]
  refine RLoop_from (fun f h => ∃ (i : Nat) (a' : Option Addr) (c' : Nat), i ≤ n.kids.length ∧ i ≤ c' ∧ f 1 = .pointer (some ⟨g, 0, none⟩) ∧ f 2 = .pointer (some ⟨g2, 0, none⟩) ∧ f 3 = .slice a' i c' ∧ f 4 = .int .i64 (i : Int) ∧
    h = [Own 63 3 (.slice a' i c') i ((n.kids.take i).flatMap Tok.tkC), .cells g2 35 #[.bool false, .slice none 0 0, .slice none 0 0], .cells g 25 #[.bool n.leaf, .slice a1 n.toks.length c1, .slice a2 n.kids.length c2], .anchor w []]) (fun f _ => (n.kids.length - ival (f 4)).toNat) ?_ ?_
  · exact fun w1 hs => ⟨_, hs.own_nil 63 3, 0, none, 0, by omega, by omega, by (first | (simp -implicitDefEqProofs (disch := omega) only [go_sem]; done) | (simp -implicitDefEqProofs (disch := omega) only [go_sem]; rfl)), by (first | (simp -implicitDefEqProofs (disch := omega) only [go_sem]; done) | (simp -implicitDefEqProofs (disch := omega) only [go_sem]; rfl)), by (first | (simp -implicitDefEqProofs (disch := omega) only [go_sem]; done) | (simp -implicitDefEqProofs (disch := omega) only [go_sem]; rfl)), by (first | (simp -implicitDefEqProofs (disch := omega) only [go_sem]; done) | (simp -implicitDefEqProofs (disch := omega) only [go_sem]; rfl)), rfl⟩
  rintro f h ⟨i, a', c', hi, hc', e1, e2, e3, e4, rfl⟩ Q' hQ'
  by_cases hil : i < n.kids.length
  · have g1' : (i : Int) < (n.kids.length : Int) := by omega
    have hrow := Tok.take_succ hil
    obtain ⟨b, o, rfl, hbb, _, hc0, hc1, hc2⟩ := three_at hm.kids i hil
    generalize n.kids.getD i Tok.tk0 = x at *
    simp -implicitDefEqProofs (disch := omega) only [go_sem, e1, e2, e3, e4, g1', decide_true]
    refine RDraw_seg (by kernel_rfl) (by kernel_rfl) 23 rfl ?_
    refine RS_cut [0, 1, 2, 3, 4, 5, 6, 7, 8, 9, 10, 11, 12, 13, 14, 15, 16, 17, 18, 19] [20, 21, 22] (by kernel_rfl) ?_
    refine RS_det (by kernel_rfl) ?_
    repeat (first | refine ToO_step (fun Q hq => by (simp -implicitDefEqProofs (disch := omega) only [go_sem, e1, e2, e3, e4, hc0, hc1, hc2]; exact hq)) ?_ | refine ToO_guard (by (simp -implicitDefEqProofs only [go_sem, e1, e2, e3, e4, hc0, hc1, hc2]; first | done | fail)) (fun Q hq => by (simp -implicitDefEqProofs (disch := omega) only [go_sem, e1, e2, e3, e4, hc0, hc1, hc2]; exact hq)) ?_ | refine ToO_skip (.inl (by (simp -implicitDefEqProofs only [go_sem, e1, e2, e3, e4, hc0, hc1, hc2]; first | done | fail))) ?_ | refine ToO_skip (.inr (by (simp -implicitDefEqProofs only [go_sem, e1, e2, e3, e4, hc0, hc1, hc2]; first | done | fail))) ?_)
    refine ToO_nil ?_
    refine RS_text (by kernel_rfl) ?_
    simp -implicitDefEqProofs (disch := omega) only [go_sem, e1, e2, e3, e4]
    refine RRun_build1z (cs := [.int .i64 x.1, .int .i64 x.2.1, .int .i64 x.2.2]) kids_sl rfl (by omega) fun gn hgn => ?_
    simp -implicitDefEqProofs (disch := omega) only [go_sem, e1, e2, e3, e4]
    refine RRun_append_cells kids_sl (fun _ hs => hs.2.2.2) rfl (tkC_one' x) (by omega) (by simp only [maxLen]; omega) fun a'' c'' hc'' => ?_
    simp -implicitDefEqProofs (disch := omega) only [go_sem, e1, e2, e3, e4]
    refine hQ' _ _ fun w1 hs => ⟨_, hs, ⟨i + 1, a'', c'', by omega, hc'', ?_, ?_, ?_, ?_, by rw [hrow, tkC_snoc]⟩, ?_⟩
    · (first | (simp -implicitDefEqProofs (disch := omega) only [go_sem, e1, e2, e3, e4]; done) | (simp -implicitDefEqProofs (disch := omega) only [go_sem, e1, e2, e3, e4]; rfl))
    · (first | (simp -implicitDefEqProofs (disch := omega) only [go_sem, e1, e2, e3, e4]; done) | (simp -implicitDefEqProofs (disch := omega) only [go_sem, e1, e2, e3, e4]; rfl))
    · (first | (simp -implicitDefEqProofs (disch := omega) only [go_sem, e1, e2, e3, e4]; done) | (simp -implicitDefEqProofs (disch := omega) only [go_sem, e1, e2, e3, e4]; rfl))
    · (first | (simp -implicitDefEqProofs (disch := omega) only [go_sem, e1, e2, e3, e4]; done) | (simp -implicitDefEqProofs (disch := omega) only [go_sem, e1, e2, e3, e4]; rfl))
    · simp -implicitDefEqProofs (disch := omega) only [go_sem, e1, e2, e3, e4]; omega
  · have g1' : ¬ (i : Int) < (n.kids.length : Int) := by omega
    obtain rfl : i = n.kids.length := by omega
    rw [List.take_length]
    simp -implicitDefEqProofs (disch := omega) only [go_sem, e1, e2, e3, e4, g1', decide_false]
    exact hQ _ _ fun w' hs => ⟨_, Sat.keep14 hs, a', c', rfl, hc', rfl⟩
set_option maxRecDepth 20000 in
set_option maxHeartbeats 2000000 in
theorem law_taken (n : Nd.N) (a1 a2 : Option Addr) (c1 c2 : Nat) (hl2 : n.kids.length ≤ 2147483648) (w : World) (hm : Nd.Mem w n a1 a2) : Does Try.prog 23 #[Nd.nV n a1 c1 a2 c2] w fun v w' => ∃ rs, Sat w' (rs ++ [.anchor w []]) ∧ Turned 65 v rs n a1 c1 := by
  unfold Nd.nV
  refine does (args := [.agg #[.bool n.leaf, .slice a1 n.toks.length c1, .slice a2 n.kids.length c2]]) Try.func23 rfl (by kernel_rfl) (by kernel_rfl) rfl ent_23 (Sat.start w []) ?_; intro QV hQ
  simp -implicitDefEqProofs (disch := omega) only [go_sem]
  refine RNew_intro fun g hg => ?_
  simp only [below_cons, below_nil, under_anchor, and_true] at hg
  simp -implicitDefEqProofs (disch := omega) only [go_sem]
  refine RNew_intro fun g2 hg2 => ?_
  simp only [below_cons, below_nil, under_anchor, under_cells, and_true] at hg2
  have ng : g ≠ g2 := Nat.ne_of_lt hg2.1
  simp -implicitDefEqProofs (disch := omega) only [go_sem]
  refine RLoop_from (fun f h => ∃ (i : Nat) (a' : Option Addr) (c' : Nat), i ≤ n.kids.length ∧ i ≤ c' ∧ f 1 = .pointer (some ⟨g, 0, none⟩) ∧ f 2 = .pointer (some ⟨g2, 0, none⟩) ∧ f 3 = .slice a' i c' ∧ f 4 = .int .i64 (i : Int) ∧
    h = [Own 65 3 (.slice a' i c') i ((n.kids.take i).flatMap Tok.tkC), .cells g2 25 #[.bool false, .slice none 0 0, .slice none 0 0], .cells g 35 #[.bool n.leaf, .slice a1 n.toks.length c1, .slice a2 n.kids.length c2], .anchor w []]) (fun f _ => (n.kids.length - ival (f 4)).toNat) ?_ ?_
  · exact fun w1 hs => ⟨_, hs.own_nil 65 3, 0, none, 0, by omega, by omega, by (first | (simp -implicitDefEqProofs (disch := omega) only [go_sem]; done) | (simp -implicitDefEqProofs (disch := omega) only [go_sem]; rfl)), by (first | (simp -implicitDefEqProofs (disch := omega) only [go_sem]; done) | (simp -implicitDefEqProofs (disch := omega) only [go_sem]; rfl)), by (first | (simp -implicitDefEqProofs (disch := omega) only [go_sem]; done) | (simp -implicitDefEqProofs (disch := omega) only [go_sem]; rfl)), by (first | (simp -implicitDefEqProofs (disch := omega) only [go_sem]; done) | (simp -implicitDefEqProofs (disch := omega) only [go_sem]; rfl)), rfl⟩
  rintro f h ⟨i, a', c', hi, hc', e1, e2, e3, e4, rfl⟩ Q' hQ'
  by_cases hil : i < n.kids.length
  · have g1' : (i : Int) < (n.kids.length : Int) := by omega
    have hrow := Tok.take_succ hil
    obtain ⟨b, o, rfl, hbb, _, hc0, hc1, hc2⟩ := three_at hm.kids i hil
    generalize n.kids.getD i Tok.tk0 = x at *
    simp -implicitDefEqProofs (disch := omega) only [go_sem, e1, e2, e3, e4, g1', decide_true]
    refine RDraw_seg (by kernel_rfl) (by kernel_rfl) 23 rfl ?_
    refine RS_cut [0, 1, 2, 3, 4, 5, 6, 7, 8, 9, 10, 11, 12, 13, 14, 15, 16, 17, 18, 19] [20, 21, 22] (by kernel_rfl) ?_
    refine RS_det (by kernel_rfl) ?_
    repeat (first | refine ToO_step (fun Q hq => by (simp -implicitDefEqProofs (disch := omega) only [go_sem, e1, e2, e3, e4, hc0, hc1, hc2]; exact hq)) ?_ | refine ToO_guard (by (simp -implicitDefEqProofs only [go_sem, e1, e2, e3, e4, hc0, hc1, hc2]; first | done | fail)) (fun Q hq => by (simp -implicitDefEqProofs (disch := omega) only [go_sem, e1, e2, e3, e4, hc0, hc1, hc2]; exact hq)) ?_ | refine ToO_skip (.inl (by (simp -implicitDefEqProofs only [go_sem, e1, e2, e3, e4, hc0, hc1, hc2]; first | done | fail))) ?_ | refine ToO_skip (.inr (by (simp -implicitDefEqProofs only [go_sem, e1, e2, e3, e4, hc0, hc1, hc2]; first | done | fail))) ?_)
    refine ToO_nil ?_
    refine RS_text (by kernel_rfl) ?_
    simp -implicitDefEqProofs (disch := omega) only [go_sem, e1, e2, e3, e4]
    refine RRun_build1z (cs := [.int .i64 x.1, .int .i64 x.2.1, .int .i64 x.2.2]) rkids_sl rfl (by omega) fun gn hgn => ?_
    simp -implicitDefEqProofs (disch := omega) only [go_sem, e1, e2, e3, e4]
    refine RRun_append_cells rkids_sl (fun _ hs => hs.2.2.2) rfl (tkC_one' x) (by omega) (by simp only [maxLen]; omega) fun a'' c'' hc'' => ?_
    simp -implicitDefEqProofs (disch := omega) only [go_sem, e1, e2, e3, e4]
    refine hQ' _ _ fun w1 hs => ⟨_, hs, ⟨i + 1, a'', c'', by omega, hc'', ?_, ?_, ?_, ?_, by rw [hrow, tkC_snoc]⟩, ?_⟩
    · (first | (simp -implicitDefEqProofs (disch := omega) only [go_sem, e1, e2, e3, e4]; done) | (simp -implicitDefEqProofs (disch := omega) only [go_sem, e1, e2, e3, e4]; rfl))
    · (first | (simp -implicitDefEqProofs (disch := omega) only [go_sem, e1, e2, e3, e4]; done) | (simp -implicitDefEqProofs (disch := omega) only [go_sem, e1, e2, e3, e4]; rfl))
    · (first | (simp -implicitDefEqProofs (disch := omega) only [go_sem, e1, e2, e3, e4]; done) | (simp -implicitDefEqProofs (disch := omega) only [go_sem, e1, e2, e3, e4]; rfl))
    · (first | (simp -implicitDefEqProofs (disch := omega) only [go_sem, e1, e2, e3, e4]; done) | (simp -implicitDefEqProofs (disch := omega) only [go_sem, e1, e2, e3, e4]; rfl))
    · simp -implicitDefEqProofs (disch := omega) only [go_sem, e1, e2, e3, e4]; omega
  · have g1' : ¬ (i : Int) < (n.kids.length : Int) := by omega
    obtain rfl : i = n.kids.length := by omega
    rw [List.take_length]
    simp -implicitDefEqProofs (disch := omega) only [go_sem, e1, e2, e3, e4, g1', decide_false]
    exact hQ _ _ fun w' hs => ⟨_, Sat.keep14 hs, a', c', rfl, hc', rfl⟩
end Go.Proofs.Ytlmbebnpnnkhmaa
