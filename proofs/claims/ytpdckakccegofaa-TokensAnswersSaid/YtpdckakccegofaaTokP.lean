/- The laws of tokens: the walk of what is asked. -/
import Derived.Test.YtpdckakccegofaaTokN
namespace Go.Proofs.Ytpdckakccegofaa
set_option linter.unusedSimpArgs false
set_option linter.unusedVariables false
open H

theorem tok_covering' (l : List Tok.Tk) (a : Option Addr) (c : Nat) (at_ : Int) (hch : Tok.Chain 0 l) (hl : l.length ≤ 2147483648) (w : World) (hr : Rd w a l.length 3 (ofL Tok.tkC Tok.tk0 l)) :
    Does Try.prog 17 #[.slice a l.length c, .int .i64 at_] w fun v w' => v = .tuple #[.int .i64 (Tok.covering l at_).1, .int .i64 (Tok.covering l at_).2] ∧ Ext [] w w' := by
  refine (tok_covering l a c at_ (Tok.chain_mono_end hch at_) (Tok.chain_small hch hl) hl w hr).mono fun v w' hv => ⟨?_, hv.2⟩
  rw [hv.1, Tok.covering_chain hch]
  split
  · rfl
  · split <;> rfl
theorem flat_cells (l : List Tok.Tk) : ∀ u ∈ flat l.length (ofL Tok.tkC Tok.tk0 l), u.oneCell' = true := by
  intro u hu
  rw [flat_ofL] at hu
  obtain ⟨t, _, hu⟩ := List.mem_flatMap.1 hu
  exact tkC_cells t u hu
/-- A row that may be written, if there is one. -/
def Writ (n : Nat) (a : Option Addr) (r : Res) : Prop := n = 0 ∨ ∃ (g : Nat) (cs : List Value), a = some ⟨g, 0, none⟩ ∧ n * 3 ≤ cs.length ∧ r = .cells g 33 cs.toArray
theorem writ_of {w : World} {h : List Res} {a : Option Addr} {n c : Nat} {xs : List Value} (hs : Sat w (Own 33 3 (.slice a n c) n xs :: h)) : ∃ r, Writ n a r ∧ Sat w (r :: h) := by
  rcases Nat.eq_zero_or_pos n with rfl | hn
  · exact ⟨_, .inl rfl, hs⟩
  · obtain ⟨g, c', e⟩ := own_some (hs.1 : w.ownsRow 0 33 3 (.slice a n c) n xs) hn
    injection e with e1
    subst e1
    obtain ⟨sp, h1, h2⟩ := hs.own_cells
    exact ⟨_, .inr ⟨g, xs ++ sp, rfl, by rw [List.length_append]; omega, rfl⟩, h1⟩

set_option maxRecDepth 20000 in
set_option maxHeartbeats 4000000 in
theorem law_answers (ns : List UInt8) (ks : List Int) (a a2 : Option Addr) (c c2 : Nat) (n lo hi : Int) (hl2 : ks.length ≤ maxLen) (hks : ∀ k ∈ ks, -128 ≤ k ∧ k ≤ 127) (w : World) (hr : Rd w a ns.length 1 (ofL (fun x => [byte x]) 0 ns)) (hr2 : Rd w a2 ks.length 1 (ofL (fun x => [.int .i8 x]) 0 ks)) :
    Does Try.prog 4 #[.agg #[.slice a ns.length c, .slice a2 ks.length c2, .int .i64 n, .int .i64 lo, .int .i64 hi]] w fun v w' => v = .bool true ∧ Ext [] w w' := by
  refine does (args := [.agg #[.slice a ns.length c, .slice a2 ks.length c2, .int .i64 n, .int .i64 lo, .int .i64 hi]]) Try.func4 rfl (by kernel_rfl) (by kernel_rfl) rfl ent_4 (Sat.start w []) ?_; intro QV hQ
  simp -implicitDefEqProofs (disch := omega) only [go_sem]
  refine RNew_intro fun g hg => ?_
  simp only [below_cons, below_nil, under_anchor, and_true] at hg
  by_cases h1 : (1000 : Int) < (ns.length : Int)
  · simp -implicitDefEqProofs (disch := omega) only [go_sem, h1, decide_true]
    refine RCall_eq tok_known ?_
    simp -implicitDefEqProofs (disch := omega) only [go_sem]
    exact hQ _ _ fun w' hs => ⟨rfl, hs.anchor (by simp)⟩
  simp -implicitDefEqProofs (disch := omega) only [go_sem, h1, decide_false]
  refine RCall_new (fun w1 hs => rtok_made ns ks a a2 c c2 (by omega) hl2 hks w1 (hr.keep (hs.mem (.anchor w []) (by simp))) (hr2.keep (hs.mem (.anchor w []) (by simp)))) ?_
  rintro _ rs ⟨al, cl, rfl, hcl, rfl⟩
  have hch := Tok.made_chain 0 ns ks
  have hlen := Tok.made_len 0 ns ks
  generalize Tok.made 0 ns ks = l at *
  have hll : l.length ≤ 2147483648 := by omega
  have hsm : Small l := Tok.chain_small hch hll
  have hb : ∀ x y, (Tok.betw l x y).length ≤ l.length := fun x y => List.length_filter_le _ _
  have ho : ∀ x, (Tok.ofk l x).length ≤ l.length := fun x => List.length_filter_le _ _
  have hb1 := hb lo hi
  have ho1 := ho n
  simp -implicitDefEqProofs (disch := omega) only [go_sem]
  refine RRun_build0 tok_sl fun g1 hg1 => ?_
  simp -implicitDefEqProofs (disch := omega) only [go_sem]
  refine RRun_append_rd (ofL Tok.tkC Tok.tk0 l) tok_sl (fun w1 hs => hs) (fun w1 hs => toks_own hs cl (by simp)) (fun _ _ => rfl) (flat_cells l) (Nat.le_refl _) (by omega) (by simp only [maxLen]; omega) fun a3 c3 hc3 => ?_
  rw [flat_ofL]
  simp -implicitDefEqProofs (disch := omega) only [go_sem]
  refine RCall_eqS (fun w1 hs => tok_nth l al cl n hll w1 (toks_own hs cl (by simp))) ?_
  simp -implicitDefEqProofs (disch := omega) only [go_sem]
  refine RNew_intro fun g2 hg2 => ?_
  simp only [below_cons, below_nil, under_anchor, under_cells, and_true] at hg2
  simp -implicitDefEqProofs (disch := omega) only [go_sem]
  refine RCall_eqS (fun w1 hs => rtok_nth l al cl n hll w1 (toks_own hs cl (by simp))) ?_
  simp -implicitDefEqProofs (disch := omega) only [go_sem]
  refine RNew_intro fun g3 hg3 => ?_
  simp only [below_cons, below_nil, under_anchor, under_cells, and_true] at hg3
  simp -implicitDefEqProofs (disch := omega) only [go_sem]
  refine RCall_eqS (fun w1 hs => tok_covering' l al cl lo hch hll w1 (toks_own hs cl (by simp))) ?_
  simp -implicitDefEqProofs (disch := omega) only [go_sem]
  refine RCall_eqS (fun w1 hs => rtok_covering l al cl lo hsm hll w1 (toks_own hs cl (by simp))) ?_
  simp -implicitDefEqProofs (disch := omega) only [go_sem]
  refine RCall_new (fun w1 hs => tok_between l al cl lo hi 0 hch hll hcl w1 (toks_own hs cl (by simp))) ?_
  rintro _ rs ⟨a4, c4, rfl, hc4, rfl⟩
  simp -implicitDefEqProofs (disch := omega) only [go_sem]
  refine RCall_new (fun w1 hs => tok_of l al cl n hll w1 (toks_own hs cl (by simp))) ?_
  rintro _ rs ⟨a5, c5, rfl, hc5, rfl⟩
  have ce : (Tok.covering l lo) = (Tok.covering l lo) := rfl
  generalize hcv : Tok.covering l lo = cv at *
  generalize hnv : Tok.nth l n = nv at *
  have hbb : (Tok.betw l lo hi).length ≤ 2147483648 := by omega
  have hoo : (Tok.ofk l n).length ≤ 2147483648 := by omega
  generalize hbl : Tok.betw l lo hi = bl at *
  generalize hol : Tok.ofk l n = ol at *
  generalize hen : Tok.ended l lo = en at *
  simp -implicitDefEqProofs (disch := omega) only [go_sem]
  refine RDraw_seg (by kernel_rfl) (by kernel_rfl) 60 rfl ?_
  refine RS_cut (List.range 25) (List.range' 25 35) (by kernel_rfl) ?_
  refine RS_det (by kernel_rfl) ?_
  repeat (first | refine ToO_step (fun Q hq => by (simp -implicitDefEqProofs (disch := omega) only [go_sem, decide_true, Bool.and_self]; exact hq)) ?_ | refine ToO_guard (by (simp -implicitDefEqProofs only [go_sem, decide_true, Bool.and_self]; first | done | fail)) (fun Q hq => by (simp -implicitDefEqProofs (disch := omega) only [go_sem, decide_true, Bool.and_self]; exact hq)) ?_ | refine ToO_skip (.inl (by (simp -implicitDefEqProofs only [go_sem, decide_true, Bool.and_self]; first | done | fail))) ?_ | refine ToO_skip (.inr (by (simp -implicitDefEqProofs only [go_sem, decide_true, Bool.and_self]; first | done | fail))) ?_)
  refine ToO_nil ?_
  refine RS_cut [25] (List.range' 26 34) (by kernel_rfl) ?_
  refine RS_text (by kernel_rfl) ?_
  simp -implicitDefEqProofs (disch := omega) only [go_sem]
  refine RCall_new (fun w1 hs => rtok_between l al cl lo hi hll w1 (toks_own hs cl (by simp))) ?_
  rintro _ rs ⟨a6, c6, rfl, hc6, rfl⟩
  rw [hbl] at hc6 ⊢
  simp -implicitDefEqProofs (disch := omega) only [go_sem]
  refine RS_cut (List.range' 26 7) (List.range' 33 27) (by kernel_rfl) ?_
  refine RS_det (by kernel_rfl) ?_
  first | refine ToO_step (fun Q hq => by (simp -implicitDefEqProofs (disch := omega) only [go_sem]; refine RCall_eqS (fun w1 hs => tok_same bl bl a4 a6 c4 c6 hbb hbb w1 (toks_own hs c4 (by simp)) (toks_own hs c6 (by simp))) ?_; simp -implicitDefEqProofs (disch := omega) only [go_sem]; exact hq)) ?_ | refine ToO_guard (by (simp -implicitDefEqProofs only [go_sem]; first | done | fail)) (fun Q hq => by (simp -implicitDefEqProofs (disch := omega) only [go_sem]; refine RCall_eqS (fun w1 hs => tok_same bl bl a4 a6 c4 c6 hbb hbb w1 (toks_own hs c4 (by simp)) (toks_own hs c6 (by simp))) ?_; simp -implicitDefEqProofs (disch := omega) only [go_sem]; exact hq)) ?_
  repeat (first | refine ToO_step (fun Q hq => by (simp -implicitDefEqProofs (disch := omega) only [go_sem, decide_true]; exact hq)) ?_ | refine ToO_guard (by (simp -implicitDefEqProofs only [go_sem, decide_true]; first | done | fail)) (fun Q hq => by (simp -implicitDefEqProofs (disch := omega) only [go_sem, decide_true]; exact hq)) ?_ | refine ToO_skip (.inl (by (simp -implicitDefEqProofs only [go_sem, decide_true]; first | done | fail))) ?_ | refine ToO_skip (.inr (by (simp -implicitDefEqProofs only [go_sem, decide_true]; first | done | fail))) ?_)
  refine ToO_nil ?_
  refine RS_cut [33] (List.range' 34 26) (by kernel_rfl) ?_
  refine RS_text (by kernel_rfl) ?_
  simp -implicitDefEqProofs (disch := omega) only [go_sem]
  refine RCall_new (fun w1 hs => rtok_of l al cl n hll w1 (toks_own hs cl (by simp))) ?_
  rintro _ rs ⟨a7, c7, rfl, hc7, rfl⟩
  rw [hol] at hc7 ⊢
  simp -implicitDefEqProofs (disch := omega) only [go_sem]
  refine RS_cut (List.range' 34 10) (List.range' 44 16) (by kernel_rfl) ?_
  refine RS_det (by kernel_rfl) ?_
  first | refine ToO_step (fun Q hq => by (simp -implicitDefEqProofs (disch := omega) only [go_sem]; refine RCall_eqS (fun w1 hs => tok_same ol ol a5 a7 c5 c7 hoo hoo w1 (toks_own hs c5 (by simp)) (toks_own hs c7 (by simp))) ?_; simp -implicitDefEqProofs (disch := omega) only [go_sem]; exact hq)) ?_ | refine ToO_guard (by (simp -implicitDefEqProofs only [go_sem]; first | done | fail)) (fun Q hq => by (simp -implicitDefEqProofs (disch := omega) only [go_sem]; refine RCall_eqS (fun w1 hs => tok_same ol ol a5 a7 c5 c7 hoo hoo w1 (toks_own hs c5 (by simp)) (toks_own hs c7 (by simp))) ?_; simp -implicitDefEqProofs (disch := omega) only [go_sem]; exact hq)) ?_
  repeat (first | refine ToO_step (fun Q hq => by (simp -implicitDefEqProofs (disch := omega) only [go_sem, decide_true]; exact hq)) ?_ | refine ToO_guard (by (simp -implicitDefEqProofs only [go_sem, decide_true]; first | done | fail)) (fun Q hq => by (simp -implicitDefEqProofs (disch := omega) only [go_sem, decide_true]; exact hq)) ?_ | refine ToO_skip (.inl (by (simp -implicitDefEqProofs only [go_sem, decide_true]; first | done | fail))) ?_ | refine ToO_skip (.inr (by (simp -implicitDefEqProofs only [go_sem, decide_true]; first | done | fail))) ?_)
  first | refine ToO_step (fun Q hq => by (simp -implicitDefEqProofs (disch := omega) only [go_sem]; refine RCall_eqS (fun w1 hs => by have := tok_count l al cl n hll w1 (toks_own hs cl (by simp)); rw [hol] at this; exact this) ?_; simp -implicitDefEqProofs (disch := omega) only [go_sem]; exact hq)) ?_ | refine ToO_guard (by (simp -implicitDefEqProofs only [go_sem]; first | done | fail)) (fun Q hq => by (simp -implicitDefEqProofs (disch := omega) only [go_sem]; refine RCall_eqS (fun w1 hs => by have := tok_count l al cl n hll w1 (toks_own hs cl (by simp)); rw [hol] at this; exact this) ?_; simp -implicitDefEqProofs (disch := omega) only [go_sem]; exact hq)) ?_
  repeat (first | refine ToO_step (fun Q hq => by (simp -implicitDefEqProofs (disch := omega) only [go_sem, decide_true]; exact hq)) ?_ | refine ToO_guard (by (simp -implicitDefEqProofs only [go_sem, decide_true]; first | done | fail)) (fun Q hq => by (simp -implicitDefEqProofs (disch := omega) only [go_sem, decide_true]; exact hq)) ?_ | refine ToO_skip (.inl (by (simp -implicitDefEqProofs only [go_sem, decide_true]; first | done | fail))) ?_ | refine ToO_skip (.inr (by (simp -implicitDefEqProofs only [go_sem, decide_true]; first | done | fail))) ?_)
  refine ToO_nil ?_
  refine RS_cut [44] (List.range' 45 15) (by kernel_rfl) ?_
  refine RS_text (by kernel_rfl) ?_
  simp -implicitDefEqProofs (disch := omega) only [go_sem]
  refine RCall_new (fun w1 hs => rtok_of l al cl n hll w1 (toks_own hs cl (by simp))) ?_
  rintro _ rs ⟨a8, c8, rfl, hc8, rfl⟩
  rw [hol] at hc8 ⊢
  simp -implicitDefEqProofs (disch := omega) only [go_sem]
  refine RS_det (by kernel_rfl) ?_
  repeat (first | refine ToO_step (fun Q hq => by (simp -implicitDefEqProofs (disch := omega) only [go_sem, decide_true]; exact hq)) ?_ | refine ToO_guard (by (simp -implicitDefEqProofs only [go_sem, decide_true]; first | done | fail)) (fun Q hq => by (simp -implicitDefEqProofs (disch := omega) only [go_sem, decide_true]; exact hq)) ?_ | refine ToO_skip (.inl (by (simp -implicitDefEqProofs only [go_sem, decide_true]; first | done | fail))) ?_ | refine ToO_skip (.inr (by (simp -implicitDefEqProofs only [go_sem, decide_true]; first | done | fail))) ?_)
  first | refine ToO_step (fun Q hq => by (simp -implicitDefEqProofs (disch := omega) only [go_sem]; refine RCall_eqS (fun w1 hs => by have := tok_ended l al cl lo (Tok.chain_mono_end hch lo) hsm hll w1 (toks_own hs cl (by simp)); rw [hen] at this; exact this) ?_; simp -implicitDefEqProofs (disch := omega) only [go_sem]; exact hq)) ?_ | refine ToO_guard (by (simp -implicitDefEqProofs only [go_sem]; first | done | fail)) (fun Q hq => by (simp -implicitDefEqProofs (disch := omega) only [go_sem]; refine RCall_eqS (fun w1 hs => by have := tok_ended l al cl lo (Tok.chain_mono_end hch lo) hsm hll w1 (toks_own hs cl (by simp)); rw [hen] at this; exact this) ?_; simp -implicitDefEqProofs (disch := omega) only [go_sem]; exact hq)) ?_
  repeat (first | refine ToO_step (fun Q hq => by (simp -implicitDefEqProofs (disch := omega) only [go_sem, decide_true]; exact hq)) ?_ | refine ToO_guard (by (simp -implicitDefEqProofs only [go_sem, decide_true]; first | done | fail)) (fun Q hq => by (simp -implicitDefEqProofs (disch := omega) only [go_sem, decide_true]; exact hq)) ?_ | refine ToO_skip (.inl (by (simp -implicitDefEqProofs only [go_sem, decide_true]; first | done | fail))) ?_ | refine ToO_skip (.inr (by (simp -implicitDefEqProofs only [go_sem, decide_true]; first | done | fail))) ?_)
  first | refine ToO_step (fun Q hq => by (simp -implicitDefEqProofs (disch := omega) only [go_sem]; refine RCall_eqS (fun w1 hs => by have := rtok_ended l al cl lo hsm hll w1 (toks_own hs cl (by simp)); rw [hen] at this; exact this) ?_; simp -implicitDefEqProofs (disch := omega) only [go_sem]; exact hq)) ?_ | refine ToO_guard (by (simp -implicitDefEqProofs only [go_sem]; first | done | fail)) (fun Q hq => by (simp -implicitDefEqProofs (disch := omega) only [go_sem]; refine RCall_eqS (fun w1 hs => by have := rtok_ended l al cl lo hsm hll w1 (toks_own hs cl (by simp)); rw [hen] at this; exact this) ?_; simp -implicitDefEqProofs (disch := omega) only [go_sem]; exact hq)) ?_
  repeat (first | refine ToO_step (fun Q hq => by (simp -implicitDefEqProofs (disch := omega) only [go_sem, decide_true]; exact hq)) ?_ | refine ToO_guard (by (simp -implicitDefEqProofs only [go_sem, decide_true]; first | done | fail)) (fun Q hq => by (simp -implicitDefEqProofs (disch := omega) only [go_sem, decide_true]; exact hq)) ?_ | refine ToO_skip (.inl (by (simp -implicitDefEqProofs only [go_sem, decide_true]; first | done | fail))) ?_ | refine ToO_skip (.inr (by (simp -implicitDefEqProofs only [go_sem, decide_true]; first | done | fail))) ?_)
  refine ToO_nil ?_
  simp -implicitDefEqProofs (disch := omega) only [go_sem, decide_true]
  have hout : ∀ (hx : Nat → Nat) , True := fun _ => trivial
  generalize hrest : [Res.cells g3 33 #[.int .i64 nv.1.1, .int .i64 nv.1.2.1, .int .i64 nv.1.2.2], .cells g2 33 #[.int .i64 nv.1.1, .int .i64 nv.1.2.1, .int .i64 nv.1.2.2], Own 33 3 (.slice a3 l.length c3) l.length (l.flatMap Tok.tkC), Own 33 3 (.slice al l.length cl) l.length (l.flatMap Tok.tkC), .cells g 30 #[.slice a ns.length c, .slice a2 ks.length c2, .int .i64 n, .int .i64 lo, .int .i64 hi], .anchor w []] = rest
  refine RLoop_from (fun f h => ∃ (i : Nat) (r : Res), i ≤ bl.length ∧ Writ bl.length a4 r ∧ f 13 = .slice a4 bl.length c4 ∧ f 14 = .slice a5 ol.length c5 ∧ f 3 = .slice al l.length cl ∧ f 4 = .slice a3 l.length c3 ∧ f 15 = .bool true ∧ f 16 = .int .i64 (i : Int) ∧
    h = r :: Own 33 3 (.slice a5 ol.length c5) ol.length (ol.flatMap Tok.tkC) :: rest) (fun f _ => (bl.length - ival (f 16)).toNat) ?_ ?_
  · intro w1 hs
    obtain ⟨r, hw, h2⟩ := writ_of hs.2.2.2.2.2.2.2.2.2.swap2
    exact ⟨_, h2, 0, r, by omega, hw, by simp -implicitDefEqProofs (disch := omega) only [go_sem], by simp -implicitDefEqProofs (disch := omega) only [go_sem], by simp -implicitDefEqProofs (disch := omega) only [go_sem], by simp -implicitDefEqProofs (disch := omega) only [go_sem], by simp -implicitDefEqProofs (disch := omega) only [go_sem], by (first | (simp -implicitDefEqProofs (disch := omega) only [go_sem]; done) | (simp -implicitDefEqProofs (disch := omega) only [go_sem]; rfl)), by rw [← hrest]⟩
  rintro f h ⟨i, r, hi, hw, e13, e14, e3, e4, e15, e16, rfl⟩ Q' hQ'
  by_cases hlt : i < bl.length
  · have g1 : (i : Int) < (bl.length : Int) := by omega
    rcases hw with h0 | ⟨gb, cs, rfl, hcs, rfl⟩
    · omega
    have hsz : i * 3 + 1 < cs.length := by omega
    simp -implicitDefEqProofs (disch := omega) only [go_sem, e13, e16, g1, decide_true]
    refine hQ' _ _ fun w1 hs => ⟨_, hs, ⟨i + 1, _, by omega, .inr ⟨gb, cs.set (i * 3 + 1) (.int .i64 (-1)), rfl, by rw [List.length_set]; exact hcs, rfl⟩, ?_, ?_, ?_, ?_, ?_, ?_, rfl⟩, ?_⟩
    · simp -implicitDefEqProofs (disch := omega) only [go_sem, e13]
    · simp -implicitDefEqProofs (disch := omega) only [go_sem, e14]
    · simp -implicitDefEqProofs (disch := omega) only [go_sem, e3]
    · simp -implicitDefEqProofs (disch := omega) only [go_sem, e4]
    · simp -implicitDefEqProofs (disch := omega) only [go_sem, e15]
    · (first | (simp -implicitDefEqProofs (disch := omega) only [go_sem]; done) | (simp -implicitDefEqProofs (disch := omega) only [go_sem]; rfl))
    · simp -implicitDefEqProofs (disch := omega) only [go_sem, e16]; omega
  have g1 : ¬ (i : Int) < (bl.length : Int) := by omega
  simp -implicitDefEqProofs (disch := omega) only [go_sem, e13, e16, g1, decide_false]
  refine RLoop_from (fun f h => ∃ (i : Nat) (r2 : Res), i ≤ ol.length ∧ Writ ol.length a5 r2 ∧ f 14 = .slice a5 ol.length c5 ∧ f 3 = .slice al l.length cl ∧ f 4 = .slice a3 l.length c3 ∧ f 15 = .bool true ∧ f 17 = .int .i64 (i : Int) ∧
    h = r2 :: r :: rest) (fun f _ => (ol.length - ival (f 17)).toNat) ?_ ?_
  · intro w1 hs
    obtain ⟨r2, hw2, h2⟩ := writ_of hs.swap2
    exact ⟨_, h2, 0, r2, by omega, hw2, by simp -implicitDefEqProofs (disch := omega) only [go_sem, e14], by simp -implicitDefEqProofs (disch := omega) only [go_sem, e3], by simp -implicitDefEqProofs (disch := omega) only [go_sem, e4], by simp -implicitDefEqProofs (disch := omega) only [go_sem, e15], by (first | (simp -implicitDefEqProofs (disch := omega) only [go_sem]; done) | (simp -implicitDefEqProofs (disch := omega) only [go_sem]; rfl)), rfl⟩
  rintro f h ⟨i, r2, hi, hw2, e14, e3, e4, e15, e17, rfl⟩ Q'' hQ''
  by_cases hlt : i < ol.length
  · have g1 : (i : Int) < (ol.length : Int) := by omega
    rcases hw2 with h0 | ⟨gb, cs, rfl, hcs, rfl⟩
    · omega
    have hsz : i * 3 + 1 < cs.length := by omega
    simp -implicitDefEqProofs (disch := omega) only [go_sem, e14, e17, g1, decide_true]
    refine hQ'' _ _ fun w1 hs => ⟨_, hs, ⟨i + 1, _, by omega, .inr ⟨gb, cs.set (i * 3 + 1) (.int .i64 (-1)), rfl, by rw [List.length_set]; exact hcs, rfl⟩, ?_, ?_, ?_, ?_, ?_, rfl⟩, ?_⟩
    · simp -implicitDefEqProofs (disch := omega) only [go_sem, e14]
    · simp -implicitDefEqProofs (disch := omega) only [go_sem, e3]
    · simp -implicitDefEqProofs (disch := omega) only [go_sem, e4]
    · simp -implicitDefEqProofs (disch := omega) only [go_sem, e15]
    · (first | (simp -implicitDefEqProofs (disch := omega) only [go_sem]; done) | (simp -implicitDefEqProofs (disch := omega) only [go_sem]; rfl))
    · simp -implicitDefEqProofs (disch := omega) only [go_sem, e17]; omega
  have g1 : ¬ (i : Int) < (ol.length : Int) := by omega
  subst hrest
  simp -implicitDefEqProofs (disch := omega) only [go_sem, e14, e17, g1, decide_false, e15, e3, e4]
  refine RCall_eqS (fun w1 hs => tok_same l l al a3 cl c3 hll hll w1 (toks_own hs cl (by simp)) (toks_own hs c3 (by simp))) ?_
  simp -implicitDefEqProofs (disch := omega) only [go_sem, decide_true]
  refine RCall_eq tok_known ?_
  simp -implicitDefEqProofs (disch := omega) only [go_sem]
  exact hQ _ _ fun w' hs => ⟨rfl, hs.anchor (by simp)⟩
end Go.Proofs.Ytpdckakccegofaa
