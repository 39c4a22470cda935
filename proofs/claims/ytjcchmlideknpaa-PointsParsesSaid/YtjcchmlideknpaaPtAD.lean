/- points' laws: the walk: points of any bytes. -/
import Derived.Test.YtjcchmlideknpaaPtAC
namespace Go.Proofs.Ytjcchmlideknpaa
set_option linter.unusedSimpArgs false
set_option linter.unusedVariables false
open H
set_option maxRecDepth 20000 in
set_option maxHeartbeats 4000000 in
theorem law_pparses (s : List UInt8) (hsl : s.length ≤ maxLen) (w : World) : Does Try.prog 6 #[str s] w fun v w' => v = .bool true ∧ Ext [] w w' := by
  refine does (args := [str s]) Try.func6 rfl (by kernel_rfl) (by kernel_rfl) rfl ent_6 (Sat.start w []) ?_; intro QV hQ
  by_cases h3 : (3000 : Int) < (s.length : Int)
  · simp -implicitDefEqProofs (disch := omega) only [go_sem, h3, decide_true]
    refine RCall_eq pts_known ?_
    simp -implicitDefEqProofs (disch := omega) only [go_sem]
    exact hQ _ _ fun w' hs => ⟨rfl, hs.anchor (by simp)⟩
  simp -implicitDefEqProofs (disch := omega) only [go_sem, h3, decide_false]
  refine RCall_eq (ref_of s (by omega)) ?_
  have hlt := (Crc.of s).isLt
  simp -implicitDefEqProofs (disch := omega) only [go_sem]
  refine RCall_eq (ref_fixed _ 4 (by omega)) ?_
  rw [crc_fix]
  have hsum := Pt.sumB_len s
  simp -implicitDefEqProofs (disch := omega) only [go_sem]
  obtain ⟨t, ht⟩ : ∃ t, t = s ++ Pt.sumB s := ⟨_, rfl⟩
  have htl : t.length ≤ 1000000 := by rw [ht, List.length_append]; omega
  have hsl2 : s.length ≤ 1000000 := by omega
  rw [← ht]
  refine RCall_ground (fun w1 hs => pts_parse s hsl2 w1) ?_
  rintro w0 _ w1 hs0 ⟨rs, hs1, v0, rfl, hn⟩
  obtain ⟨a1, c1, rfl, hx1, r1⟩ := new_still hs1 hn
  have x1 : Ext [] w w1 := Ext.trans (hs0.anchor (by simp)) hx1
  clear hs0 hs1 hn hx1
  simp -implicitDefEqProofs (disch := omega) only [go_sem]
  refine RCall_ground (fun w1 hs => rpts_parse s hsl2 w1) ?_
  rintro w0 _ w2 hs0 ⟨rs, hs1, v0, rfl, hn⟩
  obtain ⟨a2, c2, rfl, hx1, r2⟩ := new_still hs1 hn
  have x12 : Ext [] w1 w2 := Ext.trans (hs0.anchor (by simp)) hx1
  clear hs0 hs1 hn hx1
  simp -implicitDefEqProofs (disch := omega) only [go_sem]
  refine RCall_ground (fun w1 hs => pts_parse t htl w1) ?_
  rintro w0 _ w3 hs0 ⟨rs, hs1, v0, rfl, hn⟩
  obtain ⟨a3, c3, rfl, hx1, r3⟩ := new_still hs1 hn
  have x23 : Ext [] w2 w3 := Ext.trans (hs0.anchor (by simp)) hx1
  clear hs0 hs1 hn hx1
  simp -implicitDefEqProofs (disch := omega) only [go_sem]
  refine RCall_ground (fun w1 hs => rpts_parse t htl w1) ?_
  rintro w0 _ w4 hs0 ⟨rs, hs1, v0, rfl, hn⟩
  obtain ⟨a4, c4, rfl, hx1, r4⟩ := new_still hs1 hn
  have x34 : Ext [] w3 w4 := Ext.trans (hs0.anchor (by simp)) hx1
  clear hs0 hs1 hn hx1
  have k1 := r1.keep (Ext.trans x12 (Ext.trans x23 x34))
  have k2 := r2.keep (Ext.trans x23 x34)
  have k3 := r3.keep x34
  have hx := Ext.trans x1 (Ext.trans x12 (Ext.trans x23 x34))
  have i1 := parse_in (s := s) hsl2
  have i2 := parse_in (s := t) htl
  clear r1 r2 r3 x1 x12 x23 x34
  generalize Pt.parse s = p at *
  generalize Pt.parse t = q at *
  obtain ⟨p, e⟩ := p
  obtain ⟨q, f⟩ := q
  simp only [] at i1 i2 k1 k2 k3 r4 ⊢
  simp -implicitDefEqProofs (disch := omega) only [go_sem]
  refine RCall_eqS (u := .bool true) (fun w6 hs => ?_) ?_
  · have := pts_same p p a1 a2 c1 c2 (by omega) (by omega) w6 (k1.keep (hs.anchor (by simp))) (k2.keep (hs.anchor (by simp)))
    rwa [decide_eq_true rfl] at this
  simp -implicitDefEqProofs (disch := omega) only [go_sem, decide_true]
  refine RCall_eqS (u := .bool true) (fun w6 hs => ?_) ?_
  · have := pts_same q q a3 a4 c3 c4 (by omega) (by omega) w6 (k3.keep (hs.anchor (by simp))) (r4.keep (hs.anchor (by simp)))
    rwa [decide_eq_true rfl] at this
  simp -implicitDefEqProofs (disch := omega) only [go_sem, decide_true]
  refine RCall_eq pts_known ?_
  simp -implicitDefEqProofs (disch := omega) only [go_sem]
  exact hQ _ _ fun w' hs => ⟨rfl, Ext.trans hx (hs.anchor (by simp))⟩
end Go.Proofs.Ytjcchmlideknpaa
