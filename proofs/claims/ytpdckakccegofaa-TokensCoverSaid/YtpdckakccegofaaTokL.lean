/- The laws of tokens: the walks. -/
import Derived.Test.YtpdckakccegofaaTokK
namespace Go.Proofs.Ytpdckakccegofaa
set_option linter.unusedSimpArgs false
set_option linter.unusedVariables false
open H
set_option maxRecDepth 20000 in
set_option maxHeartbeats 1000000 in
theorem law_check (l : List Tok.Tk) (a : Option Addr) (c : Nat) (size : Int) (w : World) (hr : Rd w a l.length 3 (ofL Tok.tkC Tok.tk0 l)) :
    Does Try.prog 3 #[.slice a l.length c, .int .i64 size] w fun v w' => v = .bool true ∧ Ext [] w w' := by
  refine does (args := [.slice a l.length c, .int .i64 size]) Try.func3 rfl (by kernel_rfl) (by kernel_rfl) rfl ent_3 (Sat.start w []) ?_; intro QV hQ
  simp -implicitDefEqProofs (disch := omega) only [go_sem]
  refine RC_intro (fun hc => ?_) (fun hc => ?_)
  · simp -implicitDefEqProofs (disch := omega) only [go_sem]
    refine RCall_eq tok_known ?_
    simp -implicitDefEqProofs (disch := omega) only [go_sem]
    exact hQ _ _ fun w' hs => ⟨rfl, hs.anchor (by simp)⟩
  · simp only [decide_eq_false_iff_not] at hc
    simp -implicitDefEqProofs (disch := omega) only [go_sem]
    refine RCall_eqS (fun w1 hs => tok_check l a c size (by omega) w1 (hr.keep (hs.mem (.anchor w []) (by simp)))) ?_
    simp -implicitDefEqProofs (disch := omega) only [go_sem]
    refine RCall_eqS (fun w1 hs => rtok_check l a c size (by omega) w1 (hr.keep (hs.mem (.anchor w []) (by simp)))) ?_
    simp -implicitDefEqProofs (disch := omega) only [go_sem, decide_true]
    refine RCall_eq tok_known ?_
    simp -implicitDefEqProofs (disch := omega) only [go_sem]
    exact hQ _ _ fun w' hs => ⟨rfl, hs.anchor (by simp)⟩

set_option maxRecDepth 20000 in
set_option maxHeartbeats 2000000 in
theorem law_parts (ns : List UInt8) (ks : List Int) (a a2 : Option Addr) (c c2 : Nat) (n lo hi : Int) (hl2 : ks.length ≤ maxLen) (hks : ∀ k ∈ ks, -128 ≤ k ∧ k ≤ 127) (w : World) (hr : Rd w a ns.length 1 (ofL (fun x => [byte x]) 0 ns)) (hr2 : Rd w a2 ks.length 1 (ofL (fun x => [.int .i8 x]) 0 ks)) :
    Does Try.prog 5 #[.agg #[.slice a ns.length c, .slice a2 ks.length c2, .int .i64 n, .int .i64 lo, .int .i64 hi]] w fun v w' => v = .bool true ∧ Ext [] w w' := by
  refine does (args := [.agg #[.slice a ns.length c, .slice a2 ks.length c2, .int .i64 n, .int .i64 lo, .int .i64 hi]]) Try.func5 rfl (by kernel_rfl) (by kernel_rfl) rfl ent_5 (Sat.start w []) ?_; intro QV hQ
  simp -implicitDefEqProofs (disch := omega) only [go_sem]
  refine RNew_intro fun g hg => ?_
  simp only [below_cons, below_nil, under_anchor, and_true] at hg
  by_cases h1 : (1000 : Int) < (ns.length : Int)
  · simp -implicitDefEqProofs (disch := omega) only [go_sem, h1, decide_true]
    refine RCall_eq tok_known ?_
    simp -implicitDefEqProofs (disch := omega) only [go_sem]
    exact hQ _ _ fun w' hs => ⟨rfl, hs.anchor (by simp)⟩
  by_cases h2 : n < lo
  · simp -implicitDefEqProofs (disch := omega) only [go_sem, h1, h2, decide_true, decide_false]
    refine RCall_eq tok_known ?_
    simp -implicitDefEqProofs (disch := omega) only [go_sem]
    exact hQ _ _ fun w' hs => ⟨rfl, hs.anchor (by simp)⟩
  by_cases h3 : hi < n
  · simp -implicitDefEqProofs (disch := omega) only [go_sem, h1, h2, h3, decide_true, decide_false]
    refine RCall_eq tok_known ?_
    simp -implicitDefEqProofs (disch := omega) only [go_sem]
    exact hQ _ _ fun w' hs => ⟨rfl, hs.anchor (by simp)⟩
  simp -implicitDefEqProofs (disch := omega) only [go_sem, h1, h2, h3, decide_false]
  refine RCall_new (fun w1 hs => rtok_made ns ks a a2 c c2 (by omega) hl2 hks w1 (hr.keep (hs.mem (.anchor w []) (by simp))) (hr2.keep (hs.mem (.anchor w []) (by simp)))) ?_
  rintro _ rs ⟨al, cl, rfl, hcl, rfl⟩
  have hch := Tok.made_chain 0 ns ks
  have hlen := Tok.made_len 0 ns ks
  have hparts := Tok.betw_parts hch lo n hi (by omega) (by omega)
  generalize Tok.made 0 ns ks = l at *
  have hll : l.length ≤ 2147483648 := by omega
  have hb : ∀ x y, (Tok.betw l x y).length ≤ l.length := fun x y => List.length_filter_le _ _
  have hb1 := hb lo n
  have hb2 := hb n hi
  have hplen : (Tok.betw l lo n).length + (Tok.betw l n hi).length = (Tok.betw l lo hi).length := by rw [← hparts, List.length_append]
  simp -implicitDefEqProofs (disch := omega) only [go_sem]
  refine RCall_new (fun w1 hs => tok_between l al cl lo n 0 hch hll hcl w1 (toks_own hs cl (by simp))) ?_
  rintro _ rs ⟨a3, c3, rfl, hc3, rfl⟩
  simp -implicitDefEqProofs (disch := omega) only [go_sem]
  refine RCall_new (fun w1 hs => tok_between l al cl n hi 0 hch hll hcl w1 (toks_own hs cl (by simp))) ?_
  rintro _ rs ⟨a4, c4, rfl, hc4, rfl⟩
  simp -implicitDefEqProofs (disch := omega) only [go_sem]
  refine RRun_append_rd (ofL Tok.tkC Tok.tk0 (Tok.betw l n hi)) tok_sl (fun w1 hs => hs.swap2) (fun w1 hs => toks_own hs c4 (by simp)) (fun _ _ => rfl) ?_ hc3 (by omega) (by simp only [maxLen]; omega) fun a5 c5 hc5 => ?_
  · intro u hu
    rw [flat_ofL] at hu
    obtain ⟨t, _, hu⟩ := List.mem_flatMap.1 hu
    exact tkC_cells t u hu
  rw [flat_ofL, ← List.flatMap_append, hparts, hplen]
  rw [hplen] at hc5
  simp -implicitDefEqProofs (disch := omega) only [go_sem]
  refine RCall_new (fun w1 hs => tok_between l al cl lo hi 0 hch hll hcl w1 (toks_own hs cl (by simp))) ?_
  rintro _ rs ⟨a6, c6, rfl, hc6, rfl⟩
  simp -implicitDefEqProofs (disch := omega) only [go_sem]
  refine RCall_eqS (fun w1 hs => tok_same (Tok.betw l lo hi) (Tok.betw l lo hi) a5 a6 c5 c6 (by have := hb lo hi; omega) (by have := hb lo hi; omega) w1 (toks_own hs c5 (by simp)) (toks_own hs c6 (by simp))) ?_
  simp -implicitDefEqProofs (disch := omega) only [go_sem, decide_true]
  refine RCall_eq tok_known ?_
  simp -implicitDefEqProofs (disch := omega) only [go_sem]
  exact hQ _ _ fun w' hs => ⟨rfl, hs.anchor (by simp)⟩
end Go.Proofs.Ytpdckakccegofaa
