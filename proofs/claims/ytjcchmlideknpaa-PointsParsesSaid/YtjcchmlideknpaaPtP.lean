/- points' laws: the walks: what was laid down is read as it was. -/
import Derived.Test.YtjcchmlideknpaaPtO
namespace Go.Proofs.Ytjcchmlideknpaa
set_option linter.unusedSimpArgs false
set_option linter.unusedVariables false
open H
def Light (l : List Pt.P) : Prop := l.length ≤ 20 ∧ ∀ i, i < l.length → (l.getD i Pt.p0).win.length ≤ 33000
instance (l : List Pt.P) : Decidable (Light l) := by unfold Light; infer_instance
theorem pt_at4 {w : World} {a : Option Addr} {l : List Pt.P} (hr : Rd w a l.length 5 (ofL Pt.ptC Pt.p0 l)) (i : Nat) (hi : i < l.length) :
    ∃ b o, a = some ⟨b, o, none⟩ ∧ b < w.heap.size ∧ w.cell? ⟨b, o + i * 5 + 4, none⟩ = some (str (l.getD i Pt.p0).win) := by
  obtain ⟨b, o, e, hb, hc, hj⟩ := hr.at_ i hi
  exact ⟨b, o, e, hb, hj 4 (by omega)⟩
set_option maxHeartbeats 1000000 in
theorem pts_light (l : List Pt.P) (a : Option Addr) (c : Nat) (hll : l.length ≤ maxLen) (w : World) (hr : Rd w a l.length 5 (ofL Pt.ptC Pt.p0 l)) :
    Does Try.prog 8 #[.slice a l.length c] w fun v w' => v = .bool (decide (Light l)) ∧ Ext [] w w' := by
  refine does (args := [.slice a l.length c]) Try.func8 rfl (by kernel_rfl) (by kernel_rfl) rfl ent_8 (Sat.start w []) ?_; intro QV hQ
  by_cases h20 : (20 : Int) < (l.length : Int)
  · simp -implicitDefEqProofs (disch := omega) only [go_sem, h20, decide_true]
    exact hQ _ _ fun w' hs => ⟨by rw [decide_eq_false (fun h => by have := h.1; omega)], hs.anchor (by simp)⟩
  simp -implicitDefEqProofs (disch := omega) only [go_sem, h20, decide_false]
  refine RLoop_intro (fun f h => ∃ (i : Nat), i ≤ l.length ∧ (∀ j, j < i → (l.getD j Pt.p0).win.length ≤ 33000) ∧ f 0 = .slice a l.length c ∧ f 3 = .int .i64 (i : Int) ∧ h = [.anchor w []]) (fun f _ => (l.length - ival (f 3)).toNat) ?_ ?_
  · exact ⟨0, by omega, fun j hj => absurd hj (by omega), by (first | (simp -implicitDefEqProofs (disch := omega) only [go_sem]; done) | (simp -implicitDefEqProofs (disch := omega) only [go_sem]; rfl)), by (first | (simp -implicitDefEqProofs (disch := omega) only [go_sem]; done) | (simp -implicitDefEqProofs (disch := omega) only [go_sem]; rfl)), rfl⟩
  rintro f h ⟨i, hi, hdone, e0, e3, rfl⟩ Q' hQ'
  by_cases hil : i < l.length
  · have g1 : (i : Int) < (l.length : Int) := by omega
    obtain ⟨b, o, rfl, hb, hc⟩ := pt_at4 hr i hil
    by_cases h3 : (33000 : Int) < ((l.getD i Pt.p0).win.length : Int)
    · simp -implicitDefEqProofs (disch := omega) only [go_sem, e0, e3, g1, hc, h3, decide_true]
      exact hQ _ _ fun w' hs => ⟨by rw [decide_eq_false (fun h => by have := h.2 i hil; omega)], hs.anchor (by simp)⟩
    · simp -implicitDefEqProofs (disch := omega) only [go_sem, e0, e3, g1, hc, h3, decide_true, decide_false]
      refine hQ' _ _ _ (fun _ hs => hs) ⟨i + 1, by omega, fun j hj => ?_, ?_, ?_, rfl⟩ ?_
      · rcases Nat.lt_succ_iff_lt_or_eq.1 hj with h | rfl
        · exact hdone j h
        · omega
      · (first | (simp -implicitDefEqProofs (disch := omega) only [go_sem, e0, e3]; done) | (simp -implicitDefEqProofs (disch := omega) only [go_sem, e0, e3]; rfl))
      · (first | (simp -implicitDefEqProofs (disch := omega) only [go_sem, e0, e3]; done) | (simp -implicitDefEqProofs (disch := omega) only [go_sem, e0, e3]; rfl))
      · simp -implicitDefEqProofs (disch := omega) only [go_sem, e0, e3]; omega
  · have g1 : ¬ (i : Int) < (l.length : Int) := by omega
    simp -implicitDefEqProofs (disch := omega) only [go_sem, e0, e3, g1, decide_false]
    exact hQ _ _ fun w' hs => ⟨by rw [decide_eq_true ⟨by omega, fun j hj => hdone j (by omega)⟩], hs.anchor (by simp)⟩
theorem build_len {l : List Pt.P} (hl : l.length ≤ 20) (hin : ∀ p ∈ l, Pt.InR p) (hr : Pt.Right l) : (Pt.build l).1.length ≤ 1000000 := by
  have h1 := Pt.flat_len (l := l) fun p hp => ⟨hin p hp, Pt.right_alone hr hp⟩
  have h2 := Pt.head_len l.length (by omega)
  have h3 := Pt.sumB_len (Pt.bytes l)
  unfold Pt.build
  rw [if_pos hr]
  simp only [List.length_append]
  unfold Pt.bytes at *
  rw [List.length_append]
  omega
theorem parse_in {s : List UInt8} (hs : s.length ≤ 1000000) : (∀ p ∈ (Pt.parse s).1, Pt.InR p) ∧ (Pt.parse s).1.length ≤ 1000000 := by
  unfold Pt.parse
  split
  · exact ⟨by simp, by simp⟩
  · split
    · exact ⟨by simp, by simp⟩
    · split
      · exact ⟨by simp, by simp⟩
      · split
        · exact ⟨by simp, by simp⟩
        · rename_i h8 _ _ _ l hl
          have := Pt.read_in (by simp only [maxLen, List.length_take]; omega) (by rw [List.length_take]; omega) hl
          rw [List.length_take] at this
          split
          · exact ⟨this.1, by simp only []; omega⟩
          · exact ⟨by simp, by simp⟩
set_option maxRecDepth 20000 in
set_option maxHeartbeats 4000000 in
theorem law_pback (l : List Pt.P) (a : Option Addr) (c : Nat) (s : List UInt8) (hll : l.length ≤ maxLen) (hsl : s.length ≤ maxLen) (hin : ∀ p ∈ l, Pt.InR p) (w : World) (hr : Rd w a l.length 5 (ofL Pt.ptC Pt.p0 l)) :
    Does Try.prog 7 #[.slice a l.length c, str s] w fun v w' => v = .bool true ∧ Ext [] w w' := by
  refine does (args := [.slice a l.length c, str s]) Try.func7 rfl (by kernel_rfl) (by kernel_rfl) rfl ent_7 (Sat.start w []) ?_; intro QV hQ
  simp -implicitDefEqProofs (disch := omega) only [go_sem]
  refine RCall_eqS (fun w1 hs => pts_light l a c hll w1 (hr.keep (hs.anchor (by simp)))) ?_
  by_cases hli : Light l
  rotate_left
  · simp -implicitDefEqProofs (disch := omega) only [go_sem, hli, decide_false]
    refine RCall_eq pts_known ?_
    simp -implicitDefEqProofs (disch := omega) only [go_sem]
    exact hQ _ _ fun w' hs => ⟨rfl, hs.anchor (by simp)⟩
  by_cases h3 : (3000 : Int) < (s.length : Int)
  · simp -implicitDefEqProofs (disch := omega) only [go_sem, hli, h3, decide_true]
    refine RCall_eq pts_known ?_
    simp -implicitDefEqProofs (disch := omega) only [go_sem]
    exact hQ _ _ fun w' hs => ⟨rfl, hs.anchor (by simp)⟩
  have hl20 := hli.1
  simp -implicitDefEqProofs (disch := omega) only [go_sem, hli, h3, decide_true, decide_false]
  refine RCall_eqS (fun w1 hs => pts_build l a c (by omega) hin w1 (hr.keep (hs.anchor (by simp)))) ?_
  simp -implicitDefEqProofs (disch := omega) only [go_sem]
  refine RC_join (fun f h => ∃ w1, Ext [] w w1 ∧ f 1 = str s ∧ h = [.anchor w1 []]) (fun J hJ hc => ?_) (fun J hJ hc => ?_) ?_
  · have hR : Pt.Right l := Pt.build_right (of_decide_eq_true hc)
    have hbl := build_len hl20 hin hR
    have hpb := Pt.parse_back l (by omega) hin hR
    generalize Pt.build l = be at *
    obtain ⟨bb, e⟩ := be
    simp only [] at hbl hpb ⊢
    simp -implicitDefEqProofs (disch := omega) only [go_sem]
    refine RCall_ground (fun w2 hs => pts_parse bb hbl w2) ?_
    rintro w2 _ w3 hs2 ⟨rs, hs3, v0, rfl, hn⟩
    rw [hpb] at hn ⊢
    obtain ⟨a3, c3, rfl, hx3, hr3⟩ := new_still hs3 hn
    have hx : Ext [] w w3 := Ext.trans (hs2.anchor (by simp)) hx3
    have hr' := hr.keep hx
    clear hs2 hs3 hn hx3
    simp -implicitDefEqProofs (disch := omega) only [go_sem]
    refine RCall_eqS (u := .bool true) (fun w6 hs => ?_) ?_
    · have := pts_same l l a3 a c3 c (by omega) (by omega) w6 (hr3.keep (hs.anchor (by simp))) (hr'.keep (hs.anchor (by simp)))
      rwa [decide_eq_true rfl] at this
    simp -implicitDefEqProofs (disch := omega) only [go_sem]
    exact hJ _ _ ⟨w3, hx, by (first | (simp -implicitDefEqProofs (disch := omega) only [go_sem]; done) | (simp -implicitDefEqProofs (disch := omega) only [go_sem]; rfl)), rfl⟩
  · simp -implicitDefEqProofs (disch := omega) only [go_sem]
    exact hJ _ _ ⟨w, Ext.refl _ _, by (first | (simp -implicitDefEqProofs (disch := omega) only [go_sem]; done) | (simp -implicitDefEqProofs (disch := omega) only [go_sem]; rfl)), rfl⟩
  rintro f h ⟨w1, hx1, e1, rfl⟩
  simp -implicitDefEqProofs (disch := omega) only [go_sem, e1]
  refine RCall_eq (ref_of s (by simp only [maxLen] at hsl; omega)) ?_
  have hlt := (Crc.of s).isLt
  simp -implicitDefEqProofs (disch := omega) only [go_sem, e1]
  refine RCall_eq (ref_fixed _ 4 (by omega)) ?_
  rw [crc_fix]
  have hsum := Pt.sumB_len s
  simp -implicitDefEqProofs (disch := omega) only [go_sem, e1]
  obtain ⟨t, ht⟩ : ∃ t, t = s ++ Pt.sumB s := ⟨_, rfl⟩
  have htl : t.length ≤ 1000000 := by rw [ht, List.length_append]; omega
  rw [← ht]
  refine RCall_ground (fun w2 hs => pts_parse t htl w2) ?_
  rintro w2 _ w3 hs2 ⟨rs, hs3, v0, rfl, hn⟩
  obtain ⟨a3, c3, rfl, hx3, hr3⟩ := new_still hs3 hn
  have hx : Ext [] w w3 := Ext.trans hx1 (Ext.trans (hs2.anchor (by simp)) hx3)
  clear hs2 hs3 hn hx3
  have hpe := @Pt.parse_err t
  have hpo := @Pt.parse_ok t
  have hpi := @parse_in t htl
  generalize Pt.parse t = x at *
  obtain ⟨x, e⟩ := x
  simp only [] at hpe hpo hpi hr3 ⊢
  by_cases he : e = 0
  rotate_left
  · have hx0 := hpe he
    subst hx0
    have i0 : decide (((0 : Nat) : Int) = 0) = true := rfl
    simp -implicitDefEqProofs (disch := omega) only [go_sem, e1, he, decide_false, i0, List.length_nil]
    refine RCall_eq pts_known ?_
    simp -implicitDefEqProofs (disch := omega) only [go_sem]
    exact hQ _ _ fun w' hs => ⟨rfl, Ext.trans hx (hs.anchor (by simp))⟩
  have hb := hpo he
  have hR : Pt.Right x := Pt.build_right (by rw [hb])
  simp -implicitDefEqProofs (disch := omega) only [go_sem, e1, he, decide_true]
  refine RCall_eqS (fun w1 hs => pts_build x a3 c3 hpi.2 hpi.1 w1 (hr3.keep (hs.anchor (by simp)))) ?_
  rw [hb]
  simp -implicitDefEqProofs (disch := omega) only [go_sem, e1]
  refine RCall_eqS (u := .bool true) (fun w6 hs => ?_) ?_
  · have := pts_right x a3 c3 (by have := hpi.2; omega) hpi.1 w6 (hr3.keep (hs.anchor (by simp)))
    rwa [decide_eq_true hR] at this
  simp -implicitDefEqProofs (disch := omega) only [go_sem, e1, decide_true]
  rw [← ht]
  simp -implicitDefEqProofs (disch := omega) only [go_sem, decide_true]
  refine RCall_eq pts_known ?_
  simp -implicitDefEqProofs (disch := omega) only [go_sem]
  exact hQ _ _ fun w' hs => ⟨rfl, Ext.trans hx (hs.anchor (by simp))⟩
end Go.Proofs.Ytjcchmlideknpaa
