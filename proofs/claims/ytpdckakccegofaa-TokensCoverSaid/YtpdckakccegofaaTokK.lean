/- The laws of tokens: what must come of fixed calls. -/
import Derived.Test.YtpdckakccegofaaTokD
namespace Go.Proofs.Ytpdckakccegofaa
set_option linter.unusedSimpArgs false
set_option linter.unusedVariables false
open H

theorem toks_cells {w : World} {h : List Res} {g : Nat} {l : List Tok.Tk} (hs : Sat w h) (hm : Res.cells g 33 (l.flatMap Tok.tkC).toArray ∈ h) : Rd w (some ⟨g, 0, none⟩) l.length 3 (ofL Tok.tkC Tok.tk0 l) := by
  refine rd_cells (hs.mem _ hm) 0 l.length 3 _ (hs.lt _ hm g rfl) (fun i _ => rfl) fun i j hi hj => ?_
  rw [← flat_ofL Tok.tkC Tok.tk0 l, Nat.zero_add, List.getElem?_toArray]
  exact flat_get (z := 3) (fun i _ => rfl) i j hi hj
/-- A list of tokens of one's own, anywhere in the list. -/
theorem toks_own {w : World} {h : List Res} {a : Option Addr} {l : List Tok.Tk} (hs : Sat w h) (c : Nat) (hm : Own 33 3 (.slice a l.length c) l.length (l.flatMap Tok.tkC) ∈ h) : Rd w a l.length 3 (ofL Tok.tkC Tok.tk0 l) := toks_rd (hs.mem _ hm)

def kL : List Tok.Tk := [(0, 3, 0), (3, 1, -1), (4, 2, 1)]
theorem kL_chain : Tok.Chain 0 kL := by simp [kL, Tok.Chain]
theorem tk1 : Tok.ended kL 4 = 2 := by decide +kernel
theorem tk2 : Tok.check kL 0 6 = 0 := by decide +kernel
theorem tk3 : Tok.check kL 0 5 = 24 := by decide +kernel
theorem tk4 : Tok.betw kL 1 5 = [(3, 1, -1), (4, 2, 1)] := by decide +kernel
theorem tk5 : (Tok.ofk kL 1).length = 1 := by decide +kernel
theorem tk6 : Tok.nth kL 3 = ((0, 0, 0), 21) := by decide +kernel
theorem tk7 : Tok.nth kL 2 = ((4, 2, 1), 0) := by decide +kernel

set_option maxRecDepth 20000 in
set_option maxHeartbeats 2000000 in
theorem tok_known (w : World) : Does Try.prog 11 #[] w fun v w' => v = .bool true ∧ Ext [] w w' := by
  refine does (args := []) Try.func11 rfl (by kernel_rfl) (by kernel_rfl) rfl ent_11 (Sat.start w []) ?_; intro QV hQ
  have hch := kL_chain
  have hkL : (kL.flatMap Tok.tkC).toArray = #[.int .i64 0, .int .i64 3, .int .i64 0, .int .i64 3, .int .i64 1, .int .i64 (-1), .int .i64 4, .int .i64 2, .int .i64 1] := rfl
  have hsm : Small kL := Tok.chain_small hch (by decide)
  simp -implicitDefEqProofs (disch := omega) only [go_sem]
  refine RRun_buildz [.agg (Tok.tkC (0, 3, 0)).toArray, .agg (Tok.tkC (3, 1, -1)).toArray, .agg (Tok.tkC (4, 2, 1)).toArray] (kL.flatMap Tok.tkC) tok_sl rfl rfl (by decide) (fun v hv => by
    simp only [List.mem_cons, List.not_mem_nil, or_false] at hv
    rcases hv with rfl | rfl | rfl <;> rfl) rfl (by decide) fun g hg => ?_
  simp only [below_cons, below_nil, under_anchor, and_true] at hg
  simp -implicitDefEqProofs (disch := omega) only [go_sem]
  refine RCall_eqS (u := .tuple #[.int .i64 2, .int .i64 0]) (fun w1 hs => ?_) ?_
  · have := tok_covering kL (some ⟨g, 0, none⟩) 3 4 (Tok.chain_mono_end hch 4) hsm (by decide) w1 (toks_cells hs (by simp))
    rw [if_neg (by decide), tk1, if_neg (by decide)] at this
    exact this
  simp -implicitDefEqProofs (disch := omega) only [go_sem]
  refine RCall_eqS (fun w1 hs => tok_nth kL (some ⟨g, 0, none⟩) 3 3 (by decide) w1 (toks_cells hs (by simp))) ?_
  rw [tk6]
  simp -implicitDefEqProofs (disch := omega) only [go_sem]
  refine RNew_intro fun g2 hg2 => ?_
  simp only [below_cons, below_nil, under_anchor, under_cells, and_true] at hg2
  simp -implicitDefEqProofs (disch := omega) only [go_sem]
  refine RCall_eqS (fun w1 hs => tok_nth kL (some ⟨g, 0, none⟩) 3 2 (by decide) w1 (toks_cells hs (by simp))) ?_
  rw [tk7]
  simp -implicitDefEqProofs (disch := omega) only [go_sem]
  refine RNew_intro fun g3 hg3 => ?_
  simp only [below_cons, below_nil, under_anchor, under_cells, and_true] at hg3
  simp -implicitDefEqProofs (disch := omega) only [go_sem]
  have c1 : ∀ w1 h, Sat w1 h → Res.cells g 33 (kL.flatMap Tok.tkC).toArray ∈ h → Does Try.prog 12 #[.slice (some ⟨g, 0, none⟩) 3 3, .int .i64 6] w1 fun v w' => v = .int .i64 0 ∧ Ext [] w1 w' := fun w1 h hs hm => by
    have := tok_check kL (some ⟨g, 0, none⟩) 3 6 (by decide) w1 (toks_cells hs hm)
    rwa [tk2] at this
  have c2 : ∀ w1 h, Sat w1 h → Res.cells g 33 (kL.flatMap Tok.tkC).toArray ∈ h → Does Try.prog 12 #[.slice (some ⟨g, 0, none⟩) 3 3, .int .i64 5] w1 fun v w' => v = .int .i64 24 ∧ Ext [] w1 w' := fun w1 h hs hm => by
    have := tok_check kL (some ⟨g, 0, none⟩) 3 5 (by decide) w1 (toks_cells hs hm)
    rwa [tk3] at this
  refine RDraw_seg (by kernel_rfl) (by kernel_rfl) 49 rfl ?_
  refine RS_cut [0, 1, 2, 3, 4, 5, 6, 7, 8, 9, 11, 12] (10 :: List.range' 13 36) (by kernel_rfl) ?_
  refine RS_det (by kernel_rfl) ?_
  repeat (first | refine ToO_step (fun Q hq => by (simp -implicitDefEqProofs (disch := omega) only [go_sem]; exact hq)) ?_ | refine ToO_guard (by (simp -implicitDefEqProofs only [go_sem]; first | done | fail)) (fun Q hq => by (simp -implicitDefEqProofs (disch := omega) only [go_sem]; exact hq)) ?_ | refine ToO_skip (.inl (by (simp -implicitDefEqProofs only [go_sem]; first | done | fail))) ?_ | refine ToO_skip (.inr (by (simp -implicitDefEqProofs only [go_sem]; first | done | fail))) ?_)
  first | refine ToO_step (fun Q hq => by (simp -implicitDefEqProofs (disch := omega) only [go_sem]; refine RCall_eqS (fun w1 hs => c1 w1 _ hs (by simp)) ?_; simp -implicitDefEqProofs (disch := omega) only [go_sem]; exact hq)) ?_ | refine ToO_guard (by (simp -implicitDefEqProofs only [go_sem]; first | done | fail)) (fun Q hq => by (simp -implicitDefEqProofs (disch := omega) only [go_sem]; refine RCall_eqS (fun w1 hs => c1 w1 _ hs (by simp)) ?_; simp -implicitDefEqProofs (disch := omega) only [go_sem]; exact hq)) ?_
  repeat (first | refine ToO_step (fun Q hq => by (simp -implicitDefEqProofs (disch := omega) only [go_sem]; exact hq)) ?_ | refine ToO_guard (by (simp -implicitDefEqProofs only [go_sem]; first | done | fail)) (fun Q hq => by (simp -implicitDefEqProofs (disch := omega) only [go_sem]; exact hq)) ?_ | refine ToO_skip (.inl (by (simp -implicitDefEqProofs only [go_sem]; first | done | fail))) ?_ | refine ToO_skip (.inr (by (simp -implicitDefEqProofs only [go_sem]; first | done | fail))) ?_)
  first | refine ToO_step (fun Q hq => by (simp -implicitDefEqProofs (disch := omega) only [go_sem]; refine RCall_eqS (fun w1 hs => c2 w1 _ hs (by simp)) ?_; simp -implicitDefEqProofs (disch := omega) only [go_sem]; exact hq)) ?_ | refine ToO_guard (by (simp -implicitDefEqProofs only [go_sem]; first | done | fail)) (fun Q hq => by (simp -implicitDefEqProofs (disch := omega) only [go_sem]; refine RCall_eqS (fun w1 hs => c2 w1 _ hs (by simp)) ?_; simp -implicitDefEqProofs (disch := omega) only [go_sem]; exact hq)) ?_
  repeat (first | refine ToO_step (fun Q hq => by (simp -implicitDefEqProofs (disch := omega) only [go_sem]; exact hq)) ?_ | refine ToO_guard (by (simp -implicitDefEqProofs only [go_sem]; first | done | fail)) (fun Q hq => by (simp -implicitDefEqProofs (disch := omega) only [go_sem]; exact hq)) ?_ | refine ToO_skip (.inl (by (simp -implicitDefEqProofs only [go_sem]; first | done | fail))) ?_ | refine ToO_skip (.inr (by (simp -implicitDefEqProofs only [go_sem]; first | done | fail))) ?_)
  refine ToO_nil ?_
  refine RS_cut [10] (List.range' 13 36) (by kernel_rfl) ?_
  refine RS_text (by kernel_rfl) ?_
  simp -implicitDefEqProofs (disch := omega) only [go_sem]
  refine RCall_new (fun w1 hs => tok_between kL (some ⟨g, 0, none⟩) 3 1 5 0 hch (by decide) (by decide) w1 (toks_cells hs (by simp))) ?_
  rintro _ rs ⟨a', c', rfl, hc', rfl⟩
  rw [tk4] at hc' ⊢
  simp -implicitDefEqProofs (disch := omega) only [go_sem]
  have hpart : ∀ w1 h, Sat w1 h → Res.cells g 33 (kL.flatMap Tok.tkC).toArray ∈ h → Rd w1 (some ⟨g, 3, none⟩) 2 3 (ofL Tok.tkC Tok.tk0 [(3, 1, -1), (4, 2, 1)]) := fun w1 h hs hm =>
    ((toks_cells hs hm).part 1 2 (by decide)).congr fun i hi => ofL_drop Tok.tkC Tok.tk0 kL 1 i
  have c3 : ∀ w1 h, Sat w1 h → Res.cells g 33 (kL.flatMap Tok.tkC).toArray ∈ h → Own 33 3 (.slice a' 2 c') 2 (([(3, 1, -1), (4, 2, 1)] : List Tok.Tk).flatMap Tok.tkC) ∈ h →
      Does Try.prog 21 #[.slice a' 2 c', .slice (some ⟨g, 3, none⟩) 2 2] w1 fun v w' => v = .bool true ∧ Ext [] w1 w' := fun w1 h hs hm hm2 => by
    have := tok_same [(3, 1, -1), (4, 2, 1)] [(3, 1, -1), (4, 2, 1)] a' (some ⟨g, 3, none⟩) c' 2 (by decide) (by decide) w1 (toks_own hs c' hm2) (hpart w1 h hs hm)
    exact this
  have c4 : ∀ w1 h, Sat w1 h → Res.cells g 33 (kL.flatMap Tok.tkC).toArray ∈ h → Does Try.prog 25 #[.slice (some ⟨g, 0, none⟩) 3 3, .int .i64 4] w1 fun v w' => v = .int .i64 2 ∧ Ext [] w1 w' := fun w1 h hs hm => by
    have := tok_ended kL (some ⟨g, 0, none⟩) 3 4 (Tok.chain_mono_end hch 4) hsm (by decide) w1 (toks_cells hs hm)
    rwa [tk1] at this
  have c5 : ∀ w1 h, Sat w1 h → Res.cells g 33 (kL.flatMap Tok.tkC).toArray ∈ h → Does Try.prog 24 #[.slice (some ⟨g, 0, none⟩) 3 3, .int .i64 1] w1 fun v w' => v = .int .i64 1 ∧ Ext [] w1 w' := fun w1 h hs hm => by
    have := tok_count kL (some ⟨g, 0, none⟩) 3 1 (by decide) w1 (toks_cells hs hm)
    rwa [tk5] at this
  refine RS_det (by kernel_rfl) ?_
  first | refine ToO_step (fun Q hq => by (simp -implicitDefEqProofs (disch := omega) only [go_sem]; refine RCall_eqS (fun w1 hs => c3 w1 _ hs (by simp) (by simp)) ?_; simp -implicitDefEqProofs (disch := omega) only [go_sem]; exact hq)) ?_ | refine ToO_guard (by (simp -implicitDefEqProofs only [go_sem]; first | done | fail)) (fun Q hq => by (simp -implicitDefEqProofs (disch := omega) only [go_sem]; refine RCall_eqS (fun w1 hs => c3 w1 _ hs (by simp) (by simp)) ?_; simp -implicitDefEqProofs (disch := omega) only [go_sem]; exact hq)) ?_
  repeat (first | refine ToO_step (fun Q hq => by (simp -implicitDefEqProofs (disch := omega) only [go_sem]; exact hq)) ?_ | refine ToO_guard (by (simp -implicitDefEqProofs only [go_sem]; first | done | fail)) (fun Q hq => by (simp -implicitDefEqProofs (disch := omega) only [go_sem]; exact hq)) ?_ | refine ToO_skip (.inl (by (simp -implicitDefEqProofs only [go_sem]; first | done | fail))) ?_ | refine ToO_skip (.inr (by (simp -implicitDefEqProofs only [go_sem]; first | done | fail))) ?_)
  first | refine ToO_step (fun Q hq => by (simp -implicitDefEqProofs (disch := omega) only [go_sem]; refine RCall_eqS (fun w1 hs => c4 w1 _ hs (by simp)) ?_; simp -implicitDefEqProofs (disch := omega) only [go_sem]; exact hq)) ?_ | refine ToO_guard (by (simp -implicitDefEqProofs only [go_sem]; first | done | fail)) (fun Q hq => by (simp -implicitDefEqProofs (disch := omega) only [go_sem]; refine RCall_eqS (fun w1 hs => c4 w1 _ hs (by simp)) ?_; simp -implicitDefEqProofs (disch := omega) only [go_sem]; exact hq)) ?_
  repeat (first | refine ToO_step (fun Q hq => by (simp -implicitDefEqProofs (disch := omega) only [go_sem]; exact hq)) ?_ | refine ToO_guard (by (simp -implicitDefEqProofs only [go_sem]; first | done | fail)) (fun Q hq => by (simp -implicitDefEqProofs (disch := omega) only [go_sem]; exact hq)) ?_ | refine ToO_skip (.inl (by (simp -implicitDefEqProofs only [go_sem]; first | done | fail))) ?_ | refine ToO_skip (.inr (by (simp -implicitDefEqProofs only [go_sem]; first | done | fail))) ?_)
  first | refine ToO_step (fun Q hq => by (simp -implicitDefEqProofs (disch := omega) only [go_sem]; refine RCall_eqS (fun w1 hs => c5 w1 _ hs (by simp)) ?_; simp -implicitDefEqProofs (disch := omega) only [go_sem]; exact hq)) ?_ | refine ToO_guard (by (simp -implicitDefEqProofs only [go_sem]; first | done | fail)) (fun Q hq => by (simp -implicitDefEqProofs (disch := omega) only [go_sem]; refine RCall_eqS (fun w1 hs => c5 w1 _ hs (by simp)) ?_; simp -implicitDefEqProofs (disch := omega) only [go_sem]; exact hq)) ?_
  repeat (first | refine ToO_step (fun Q hq => by (simp -implicitDefEqProofs (disch := omega) only [go_sem, hkL]; exact hq)) ?_ | refine ToO_guard (by (simp -implicitDefEqProofs only [go_sem, hkL]; first | done | fail)) (fun Q hq => by (simp -implicitDefEqProofs (disch := omega) only [go_sem, hkL]; exact hq)) ?_ | refine ToO_skip (.inl (by (simp -implicitDefEqProofs only [go_sem, hkL]; first | done | fail))) ?_ | refine ToO_skip (.inr (by (simp -implicitDefEqProofs only [go_sem, hkL]; first | done | fail))) ?_)
  refine ToO_nil ?_
  simp -implicitDefEqProofs (disch := omega) only [go_sem]
  exact hQ _ _ fun w' hs => ⟨rfl, hs.anchor (by simp)⟩
end Go.Proofs.Ytpdckakccegofaa
