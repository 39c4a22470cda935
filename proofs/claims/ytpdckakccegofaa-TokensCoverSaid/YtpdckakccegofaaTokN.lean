/- The laws of tokens: the walks, the last two. -/
import Derived.Test.YtpdckakccegofaaTokL
namespace Go.Proofs.Ytpdckakccegofaa
set_option linter.unusedSimpArgs false
set_option linter.unusedVariables false
open H

/-- What covering says of a chain. -/
theorem cover_facts {l : List Tok.Tk} (h : Tok.Chain 0 l) (at_ : Int) (h0 : 0 ≤ at_) (h1 : at_ < Tok.size l) : Tok.ended l at_ < l.length ∧ (l.getD (Tok.ended l at_) Tok.tk0).1 ≤ at_ ∧ at_ < (l.getD (Tok.ended l at_) Tok.tk0).1 + (l.getD (Tok.ended l at_) Tok.tk0).2.1 := by
  have hm := Tok.mono_split (Tok.chain_mono_end h at_)
  rw [Tok.count_not] at hm
  have hpos : 0 < l.length := by
    rcases Nat.eq_zero_or_pos l.length with hz | hp
    · have : l = [] := List.eq_nil_of_length_eq_zero hz
      subst this
      simp [Tok.size] at h1; omega
    · exact hp
  have hne : ¬ l = [] := fun e => by rw [e] at hpos; simp at hpos
  unfold Tok.size at h1
  rw [if_neg hne] at h1
  have hlt : Tok.ended l at_ < l.length := by
    have := (hm (l.length - 1) (by omega)).1 (by simp only [decide_eq_true_eq]; exact h1)
    omega
  have h2 := (hm (Tok.ended l at_) hlt).2 (Nat.le_refl _)
  simp only [decide_eq_true_eq] at h2
  refine ⟨hlt, ?_, h2⟩
  rcases Nat.eq_zero_or_pos (Tok.ended l at_) with hz | hp
  · have := (Tok.chain_at l 0 h 0 (by omega)).2.1
    rw [hz]; omega
  · have hn := Tok.chain_next l 0 h (Tok.ended l at_ - 1) (by omega)
    rw [show Tok.ended l at_ - 1 + 1 = Tok.ended l at_ by omega] at hn
    have hk := hm (Tok.ended l at_ - 1) (by omega)
    simp only [decide_eq_true_eq] at hk
    have : ¬ at_ < (l.getD (Tok.ended l at_ - 1) Tok.tk0).1 + (l.getD (Tok.ended l at_ - 1) Tok.tk0).2.1 := fun hc => by have := hk.1 hc; omega
    omega
theorem cover_out {l : List Tok.Tk} (h : Tok.Chain 0 l) (at_ : Int) (h0 : 0 ≤ at_) (h1 : Tok.size l ≤ at_) : Tok.ended l at_ = l.length := by
  have hm := Tok.mono_split (Tok.chain_mono_end h at_)
  rw [Tok.count_not] at hm
  have hle : Tok.ended l at_ ≤ l.length := List.countP_le_length
  apply Decidable.byContradiction
  intro hne
  have hlt : Tok.ended l at_ < l.length := by omega
  have h2 := (hm (l.length - 1) (by omega)).2 (by omega)
  simp only [decide_eq_true_eq] at h2
  have hnil : ¬ l = [] := fun e => by rw [e] at hlt; simp at hlt
  unfold Tok.size at h1
  rw [if_neg hnil] at h1
  omega

set_option maxRecDepth 20000 in
set_option maxHeartbeats 2000000 in
theorem law_cover (ns : List UInt8) (ks : List Int) (a a2 : Option Addr) (c c2 : Nat) (n lo hi : Int) (hl2 : ks.length ≤ maxLen) (hks : ∀ k ∈ ks, -128 ≤ k ∧ k ≤ 127) (w : World) (hr : Rd w a ns.length 1 (ofL (fun x => [byte x]) 0 ns)) (hr2 : Rd w a2 ks.length 1 (ofL (fun x => [.int .i8 x]) 0 ks)) :
    Does Try.prog 6 #[.agg #[.slice a ns.length c, .slice a2 ks.length c2, .int .i64 n, .int .i64 lo, .int .i64 hi]] w fun v w' => v = .bool true ∧ Ext [] w w' := by
  refine does (args := [.agg #[.slice a ns.length c, .slice a2 ks.length c2, .int .i64 n, .int .i64 lo, .int .i64 hi]]) Try.func6 rfl (by kernel_rfl) (by kernel_rfl) rfl ent_6 (Sat.start w []) ?_; intro QV hQ
  simp -implicitDefEqProofs (disch := omega) only [go_sem]
  refine RNew_intro fun g hg => ?_
  simp only [below_cons, below_nil, under_anchor, and_true] at hg
  by_cases h1 : (1000 : Int) < (ns.length : Int)
  · simp -implicitDefEqProofs (disch := omega) only [go_sem, h1, decide_true]
    refine RCall_eq tok_known ?_
    simp -implicitDefEqProofs (disch := omega) only [go_sem]
    exact hQ _ _ fun w' hs => ⟨rfl, hs.anchor (by simp)⟩
  simp -implicitDefEqProofs (disch := omega) only [go_sem, h1, decide_false]
  refine RCall_new (fun w1 hs => rtok_made ns ks a a2 c c2 (by omega) hl2 hks w1 (hr.keep (hs.mem (.anchor w []) (by simp))) (hr2.keep (hs.mem (.anchor w []) (by simp)))) ?_
  rintro _ rs ⟨al, cl, rfl, hcl, rfl⟩
  have hch := Tok.made_chain 0 ns ks
  have hlen := Tok.made_len 0 ns ks
  generalize Tok.made 0 ns ks = l at *
  have hll : l.length ≤ 2147483648 := by omega
  have hsm : Small l := Tok.chain_small hch hll
  simp -implicitDefEqProofs (disch := omega) only [go_sem]
  by_cases h2 : lo < 0
  · refine RCall_eqS (u := .tuple #[.int .i64 0, .int .i64 1]) (fun w1 hs => ?_) ?_
    · have := tok_covering l al cl lo (Tok.chain_mono_end hch lo) hsm hll w1 (toks_own hs cl (by simp))
      rwa [if_pos h2] at this
    simp -implicitDefEqProofs (disch := omega) only [go_sem]
    refine RDraw_seg (by kernel_rfl) (by kernel_rfl) 10 rfl ?_
    refine RS_det (by kernel_rfl) ?_
    repeat (first | refine ToO_step (fun Q hq => by (simp -implicitDefEqProofs (disch := omega) only [go_sem, h2, decide_true]; exact hq)) ?_ | refine ToO_guard (by (simp -implicitDefEqProofs only [go_sem, h2, decide_true]; first | done | fail)) (fun Q hq => by (simp -implicitDefEqProofs (disch := omega) only [go_sem, h2, decide_true]; exact hq)) ?_ | refine ToO_skip (.inl (by (simp -implicitDefEqProofs only [go_sem, h2, decide_true]; first | done | fail))) ?_ | refine ToO_skip (.inr (by (simp -implicitDefEqProofs only [go_sem, h2, decide_true]; first | done | fail))) ?_)
    refine ToO_nil ?_
    simp -implicitDefEqProofs (disch := omega) only [go_sem, h2, decide_true]
    refine RCall_eq tok_known ?_
    simp -implicitDefEqProofs (disch := omega) only [go_sem]
    exact hQ _ _ fun w' hs => ⟨rfl, hs.anchor (by simp)⟩
  by_cases h3 : lo < Tok.size l
  · obtain ⟨k1, k2, k3⟩ := cover_facts hch lo (by omega) h3
    have h3' : ¬ Tok.size l ≤ lo := by omega
    refine RCall_eqS (u := .tuple #[.int .i64 (Tok.ended l lo : Int), .int .i64 0]) (fun w1 hs => ?_) ?_
    · have := tok_covering l al cl lo (Tok.chain_mono_end hch lo) hsm hll w1 (toks_own hs cl (by simp))
      rwa [if_neg h2, if_neg (by omega)] at this
    simp -implicitDefEqProofs (disch := omega) only [go_sem]
    refine RDraw_seg (by kernel_rfl) (by kernel_rfl) 10 rfl ?_
    refine RS_det (by kernel_rfl) ?_
    repeat (first | refine ToO_step (fun Q hq => by (simp -implicitDefEqProofs (disch := omega) only [go_sem, h2, decide_false]; exact hq)) ?_ | refine ToO_guard (by (simp -implicitDefEqProofs only [go_sem, h2, decide_false]; first | done | fail)) (fun Q hq => by (simp -implicitDefEqProofs (disch := omega) only [go_sem, h2, decide_false]; exact hq)) ?_ | refine ToO_skip (.inl (by (simp -implicitDefEqProofs only [go_sem, h2, decide_false]; first | done | fail))) ?_ | refine ToO_skip (.inr (by (simp -implicitDefEqProofs only [go_sem, h2, decide_false]; first | done | fail))) ?_)
    first | refine ToO_step (fun Q hq => by (simp -implicitDefEqProofs (disch := omega) only [go_sem, h2, decide_false]; refine RCall_eqS (fun w1 hs => rtok_size l al cl hsm hll w1 (toks_own hs cl (by simp))) ?_; simp -implicitDefEqProofs (disch := omega) only [go_sem, h2, decide_false]; exact hq)) ?_ | refine ToO_guard (by (simp -implicitDefEqProofs only [go_sem, h2, decide_false]; first | done | fail)) (fun Q hq => by (simp -implicitDefEqProofs (disch := omega) only [go_sem, h2, decide_false]; refine RCall_eqS (fun w1 hs => rtok_size l al cl hsm hll w1 (toks_own hs cl (by simp))) ?_; simp -implicitDefEqProofs (disch := omega) only [go_sem, h2, decide_false]; exact hq)) ?_
    repeat (first | refine ToO_step (fun Q hq => by (simp -implicitDefEqProofs (disch := omega) only [go_sem, h2, h3', decide_false]; exact hq)) ?_ | refine ToO_guard (by (simp -implicitDefEqProofs only [go_sem, h2, h3', decide_false]; first | done | fail)) (fun Q hq => by (simp -implicitDefEqProofs (disch := omega) only [go_sem, h2, h3', decide_false]; exact hq)) ?_ | refine ToO_skip (.inl (by (simp -implicitDefEqProofs only [go_sem, h2, h3', decide_false]; first | done | fail))) ?_ | refine ToO_skip (.inr (by (simp -implicitDefEqProofs only [go_sem, h2, h3', decide_false]; first | done | fail))) ?_)
    refine ToO_nil ?_
    simp -implicitDefEqProofs (disch := omega) only [go_sem, h2, h3', decide_false]
    refine RCall_eqS (fun w1 hs => tok_nth l al cl (Tok.ended l lo : Int) hll w1 (toks_own hs cl (by simp))) ?_
    have hnth : Tok.nth l (Tok.ended l lo : Int) = (l.getD (Tok.ended l lo) Tok.tk0, 0) := by
      unfold Tok.nth
      rw [if_neg (by omega), if_neg (by omega), Int.toNat_natCast]
    rw [hnth]
    have hb := hsm (l.getD (Tok.ended l lo) Tok.tk0) (by
      rw [List.getD_eq_getElem?_getD, List.getElem?_eq_getElem k1]; exact List.getElem_mem _)
    generalize hT : l.getD (Tok.ended l lo) Tok.tk0 = t at *
    simp -implicitDefEqProofs (disch := omega) only [go_sem]
    refine RNew_intro fun g2 hg2 => ?_
    simp only [below_cons, below_nil, under_anchor, under_cells, and_true] at hg2
    simp -implicitDefEqProofs (disch := omega) only [go_sem, decide_true]
    refine RCall_eqS (fun w1 hs => tok_ended l al cl lo (Tok.chain_mono_end hch lo) hsm hll w1 (toks_own hs cl (by simp))) ?_
    simp -implicitDefEqProofs (disch := omega) only [go_sem, k2, k3, decide_true]
    refine RCall_eq tok_known ?_
    simp -implicitDefEqProofs (disch := omega) only [go_sem]
    exact hQ _ _ fun w' hs => ⟨rfl, hs.anchor (by simp)⟩
  · have he := cover_out hch lo (by omega) (by omega)
    have h3' : Tok.size l ≤ lo := by omega
    refine RCall_eqS (u := .tuple #[.int .i64 0, .int .i64 21]) (fun w1 hs => ?_) ?_
    · have := tok_covering l al cl lo (Tok.chain_mono_end hch lo) hsm hll w1 (toks_own hs cl (by simp))
      rwa [if_neg h2, if_pos he] at this
    simp -implicitDefEqProofs (disch := omega) only [go_sem]
    refine RDraw_seg (by kernel_rfl) (by kernel_rfl) 10 rfl ?_
    refine RS_det (by kernel_rfl) ?_
    repeat (first | refine ToO_step (fun Q hq => by (simp -implicitDefEqProofs (disch := omega) only [go_sem, h2, decide_false]; exact hq)) ?_ | refine ToO_guard (by (simp -implicitDefEqProofs only [go_sem, h2, decide_false]; first | done | fail)) (fun Q hq => by (simp -implicitDefEqProofs (disch := omega) only [go_sem, h2, decide_false]; exact hq)) ?_ | refine ToO_skip (.inl (by (simp -implicitDefEqProofs only [go_sem, h2, decide_false]; first | done | fail))) ?_ | refine ToO_skip (.inr (by (simp -implicitDefEqProofs only [go_sem, h2, decide_false]; first | done | fail))) ?_)
    first | refine ToO_step (fun Q hq => by (simp -implicitDefEqProofs (disch := omega) only [go_sem, h2, decide_false]; refine RCall_eqS (fun w1 hs => rtok_size l al cl hsm hll w1 (toks_own hs cl (by simp))) ?_; simp -implicitDefEqProofs (disch := omega) only [go_sem, h2, decide_false]; exact hq)) ?_ | refine ToO_guard (by (simp -implicitDefEqProofs only [go_sem, h2, decide_false]; first | done | fail)) (fun Q hq => by (simp -implicitDefEqProofs (disch := omega) only [go_sem, h2, decide_false]; refine RCall_eqS (fun w1 hs => rtok_size l al cl hsm hll w1 (toks_own hs cl (by simp))) ?_; simp -implicitDefEqProofs (disch := omega) only [go_sem, h2, decide_false]; exact hq)) ?_
    repeat (first | refine ToO_step (fun Q hq => by (simp -implicitDefEqProofs (disch := omega) only [go_sem, h2, h3', decide_true]; exact hq)) ?_ | refine ToO_guard (by (simp -implicitDefEqProofs only [go_sem, h2, h3', decide_true]; first | done | fail)) (fun Q hq => by (simp -implicitDefEqProofs (disch := omega) only [go_sem, h2, h3', decide_true]; exact hq)) ?_ | refine ToO_skip (.inl (by (simp -implicitDefEqProofs only [go_sem, h2, h3', decide_true]; first | done | fail))) ?_ | refine ToO_skip (.inr (by (simp -implicitDefEqProofs only [go_sem, h2, h3', decide_true]; first | done | fail))) ?_)
    refine ToO_nil ?_
    simp -implicitDefEqProofs (disch := omega) only [go_sem, h2, h3', decide_true]
    refine RCall_eq tok_known ?_
    simp -implicitDefEqProofs (disch := omega) only [go_sem]
    exact hQ _ _ fun w' hs => ⟨rfl, hs.anchor (by simp)⟩
end Go.Proofs.Ytpdckakccegofaa
