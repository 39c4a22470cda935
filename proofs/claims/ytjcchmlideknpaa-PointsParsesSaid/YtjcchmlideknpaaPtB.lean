/- points: the walks: whether points are right; which one is near. -/
import Derived.Test.YtjcchmlideknpaaPtA
namespace Go.Proofs.Ytjcchmlideknpaa
set_option linter.unusedSimpArgs false
set_option linter.unusedVariables false
open H
theorem in_getD {l : List Pt.P} {i : Nat} (hl : ∀ p ∈ l, Pt.InR p) (hi : i < l.length) : Pt.InR (l.getD i Pt.p0) := by
  refine hl _ ?_
  rw [List.getD_eq_getElem?_getD, List.getElem?_eq_getElem hi]
  exact List.getElem_mem _
set_option maxHeartbeats 1000000 in
theorem pts_right (l : List Pt.P) (a : Option Addr) (c : Nat) (hll : l.length ≤ 2147483648) (hin : ∀ p ∈ l, Pt.InR p) (w : World) (hr : Rd w a l.length 5 (ofL Pt.ptC Pt.p0 l)) :
    Does Try.prog 12 #[.slice a l.length c] w fun v w' => v = .bool (decide (Pt.Right l)) ∧ Ext [] w w' := by
  refine does (args := [.slice a l.length c]) Try.func12 rfl (by kernel_rfl) (by kernel_rfl) rfl ent_12 (Sat.start w []) ?_; intro QV hQ
  simp -implicitDefEqProofs (disch := omega) only [go_sem]
  refine RLoop_intro (fun f h => ∃ (i : Nat), i ≤ l.length ∧ (∀ j, j < i → Pt.At l j) ∧ f 0 = .slice a l.length c ∧ f 5 = .slice a l.length c ∧ f 6 = .int .i64 (l.length : Int) ∧ f 7 = .int .i64 (i : Int) ∧ h = [.anchor w []]) (fun f _ => (l.length - ival (f 7)).toNat) ?_ ?_
  · exact ⟨0, by omega, fun j hj => absurd hj (by omega), by (first | (simp -implicitDefEqProofs (disch := omega) only [go_sem]; done) | (simp -implicitDefEqProofs (disch := omega) only [go_sem]; rfl)), by (first | (simp -implicitDefEqProofs (disch := omega) only [go_sem]; done) | (simp -implicitDefEqProofs (disch := omega) only [go_sem]; rfl)), by (first | (simp -implicitDefEqProofs (disch := omega) only [go_sem]; done) | (simp -implicitDefEqProofs (disch := omega) only [go_sem]; rfl)), by (first | (simp -implicitDefEqProofs (disch := omega) only [go_sem]; done) | (simp -implicitDefEqProofs (disch := omega) only [go_sem]; rfl)), rfl⟩
  rintro f h ⟨i, hi, hdone, e0, e5, e6, e7, rfl⟩ Q' hQ'
  by_cases hil : i < l.length
  rotate_left
  · have g1 : ¬ (i : Int) < (l.length : Int) := by omega
    obtain rfl : i = l.length := by omega
    have hR : Pt.Right l ↔ 0 < l.length := ⟨fun h => h.1, fun h => ⟨h, hdone⟩⟩
    simp -implicitDefEqProofs (disch := omega) only [go_sem, e0, e5, e6, e7, g1, decide_false]
    exact hQ _ _ fun w' hs => ⟨by rw [Value.bool.injEq, decide_eq_decide, hR]; omega, hs.anchor (by simp)⟩
  have g1 : (i : Int) < (l.length : Int) := by omega
  have hmi : ival (f 7) = (i : Int) := by rw [e7]; rfl
  obtain ⟨b, o, rfl, hb, hc, _⟩ := pt_at hr i hil
  have hpi := in_getD hin hil
  have hA : Pt.At l i ↔ Pt.Alone (l.getD i Pt.p0) ∧ (i = 0 → (l.getD i Pt.p0).out = 0 ∧ (l.getD i Pt.p0).tok = 0) ∧ (0 < i → Pt.Follows (l.getD (i - 1) Pt.p0) (l.getD i Pt.p0)) := Iff.rfl
  have hbad : ¬ Pt.At l i → decide (Pt.Right l) = false := fun h => decide_eq_false fun hx => h (hx.2 i hil)
  generalize hp : l.getD i Pt.p0 = p at *
  simp -implicitDefEqProofs (disch := omega) only [go_sem, e0, e5, e6, e7, g1, hc, decide_true]
  refine RNew_intro fun g hg => ?_
  simp only [below_cons, below_nil, under_anchor, and_true] at hg
  have hbg : b ≠ g := Nat.ne_of_lt (Nat.lt_of_lt_of_le hb hg)
  simp -implicitDefEqProofs (disch := omega) only [go_sem, e0, e5, e6, e7]
  refine RCall_eq (pts_alone p hpi) ?_
  by_cases hal : Pt.Alone p
  rotate_left
  · rw [hbad (fun h => hal (hA.1 h).1)] at hQ
    simp -implicitDefEqProofs (disch := omega) only [go_sem, hal, decide_false]
    exact hQ _ _ fun w' hs => ⟨rfl, hs.anchor (by simp)⟩
  simp -implicitDefEqProofs (disch := omega) only [go_sem, e0, e5, e6, e7, hal, decide_true]
  cases i with
  | zero =>
    have hz : decide (((0 : Nat) : Int) = 0) = true := rfl
    have hz2 : decide ((0 : Int) < ((0 : Nat) : Int)) = false := rfl
    by_cases ho : p.out = 0
    rotate_left
    · rw [hbad (fun h => ho ((hA.1 h).2.1 rfl).1)] at hQ
      simp -implicitDefEqProofs (disch := omega) only [go_sem, e0, e5, e6, e7, hz, ho, decide_false]
      exact hQ _ _ fun w' hs => ⟨rfl, hs.anchor (by simp)⟩
    by_cases ht : p.tok = 0
    rotate_left
    · rw [hbad (fun h => ht ((hA.1 h).2.1 rfl).2)] at hQ
      simp -implicitDefEqProofs (disch := omega) only [go_sem, e0, e5, e6, e7, hz, ho, ht, decide_false]
      exact hQ _ _ fun w' hs => ⟨rfl, hs.anchor (by simp)⟩
    simp -implicitDefEqProofs (disch := omega) only [go_sem, e0, e5, e6, e7, hz, ho, ht, decide_true]
    refine RDraw_seg (by kernel_rfl) (by kernel_rfl) 13 rfl ?_
    refine RS_det (by kernel_rfl) ?_
    repeat (first | refine ToO_step (fun Q hq => by (simp -implicitDefEqProofs (disch := omega) only [go_sem, e0, e5, e6, e7, hz2]; exact hq)) ?_ | refine ToO_guard (by (simp -implicitDefEqProofs only [go_sem, e0, e5, e6, e7, hz2]; first | done | fail)) (fun Q hq => by (simp -implicitDefEqProofs (disch := omega) only [go_sem, e0, e5, e6, e7, hz2]; exact hq)) ?_ | refine ToO_skip (.inl (by (simp -implicitDefEqProofs only [go_sem, e0, e5, e6, e7, hz2]; first | done | fail))) ?_ | refine ToO_skip (.inr (by (simp -implicitDefEqProofs only [go_sem, e0, e5, e6, e7, hz2]; first | done | fail))) ?_)
    refine ToO_nil ?_
    simp -implicitDefEqProofs (disch := omega) only [go_sem, e0, e5, e6, e7, hz2]
    refine hQ' _ _ _ (fun _ hs => hs.2.2.2) ⟨1, by omega, fun j hj => ?_, ?_, ?_, ?_, ?_, rfl⟩ ?_
    · obtain rfl : j = 0 := by omega
      exact hA.2 ⟨hal, fun _ => ⟨ho, ht⟩, fun h => absurd h (by omega)⟩
    · (first | (simp -implicitDefEqProofs (disch := omega) only [go_sem, e0, e5, e6, e7]; done) | (simp -implicitDefEqProofs (disch := omega) only [go_sem, e0, e5, e6, e7]; rfl))
    · (first | (simp -implicitDefEqProofs (disch := omega) only [go_sem, e0, e5, e6, e7]; done) | (simp -implicitDefEqProofs (disch := omega) only [go_sem, e0, e5, e6, e7]; rfl))
    · (first | (simp -implicitDefEqProofs (disch := omega) only [go_sem, e0, e5, e6, e7]; done) | (simp -implicitDefEqProofs (disch := omega) only [go_sem, e0, e5, e6, e7]; rfl))
    · (first | (simp -implicitDefEqProofs (disch := omega) only [go_sem, e0, e5, e6, e7]; done) | (simp -implicitDefEqProofs (disch := omega) only [go_sem, e0, e5, e6, e7]; rfl))
    · simp -implicitDefEqProofs (disch := omega) only [go_sem, e0, e5, e6, e7, hmi]; omega
  | succ k =>
    have hz : decide (((k + 1 : Nat) : Int) = 0) = false := decide_eq_false (by omega)
    have hz2 : decide ((0 : Int) < ((k + 1 : Nat) : Int)) = true := decide_eq_true (by omega)
    have hm1 : ((k + 1 : Nat) : Int) - 1 = (k : Int) := by omega
    have hkl : k < l.length := by omega
    have gk : (k : Int) < (l.length : Int) := by omega
    obtain ⟨b', o', he, _, hc', _⟩ := pt_at hr k hkl
    injection he with he
    injection he with he1 he2
    subst he1 he2
    have hpk := in_getD hin hkl
    have hk1 : k + 1 - 1 = k := rfl
    rw [hk1] at hA
    generalize hq' : l.getD k Pt.p0 = q at *
    simp -implicitDefEqProofs (disch := omega) only [go_sem, e0, e5, e6, e7, hz]
    refine RDraw_seg (by kernel_rfl) (by kernel_rfl) 13 rfl ?_
    refine RS_det (by kernel_rfl) ?_
    repeat (first | refine ToO_step (fun Q hq => by (simp -implicitDefEqProofs (disch := omega) only [go_sem, e0, e5, e6, e7, hz2, hm1, gk, hc']; exact hq)) ?_ | refine ToO_guard (by (simp -implicitDefEqProofs only [go_sem, e0, e5, e6, e7, hz2, hm1, gk, hc']; first | done | fail)) (fun Q hq => by (simp -implicitDefEqProofs (disch := omega) only [go_sem, e0, e5, e6, e7, hz2, hm1, gk, hc']; exact hq)) ?_ | refine ToO_skip (.inl (by (simp -implicitDefEqProofs only [go_sem, e0, e5, e6, e7, hz2, hm1, gk, hc']; first | done | fail))) ?_ | refine ToO_skip (.inr (by (simp -implicitDefEqProofs only [go_sem, e0, e5, e6, e7, hz2, hm1, gk, hc']; first | done | fail))) ?_)
    first | refine ToO_step (fun Q hq => by (simp -implicitDefEqProofs (disch := omega) only [go_sem, e0, e5, e6, e7, hz2, hm1]; refine RCall_eq (pts_follows q p) ?_; simp -implicitDefEqProofs (disch := omega) only [go_sem, e0, e5, e6, e7, hz2, hm1]; exact hq)) ?_ | refine ToO_guard (by (simp -implicitDefEqProofs only [go_sem, e0, e5, e6, e7, hz2, hm1]; first | done | fail)) (fun Q hq => by (simp -implicitDefEqProofs (disch := omega) only [go_sem, e0, e5, e6, e7, hz2, hm1]; refine RCall_eq (pts_follows q p) ?_; simp -implicitDefEqProofs (disch := omega) only [go_sem, e0, e5, e6, e7, hz2, hm1]; exact hq)) ?_
    repeat (first | refine ToO_step (fun Q hq => by (simp -implicitDefEqProofs (disch := omega) only [go_sem, e0, e5, e6, e7, hz2]; exact hq)) ?_ | refine ToO_guard (by (simp -implicitDefEqProofs only [go_sem, e0, e5, e6, e7, hz2]; first | done | fail)) (fun Q hq => by (simp -implicitDefEqProofs (disch := omega) only [go_sem, e0, e5, e6, e7, hz2]; exact hq)) ?_ | refine ToO_skip (.inl (by (simp -implicitDefEqProofs only [go_sem, e0, e5, e6, e7, hz2]; first | done | fail))) ?_ | refine ToO_skip (.inr (by (simp -implicitDefEqProofs only [go_sem, e0, e5, e6, e7, hz2]; first | done | fail))) ?_)
    refine ToO_nil ?_
    by_cases hfo : Pt.Follows q p
    · simp -implicitDefEqProofs (disch := omega) only [go_sem, e0, e5, e6, e7, hfo, decide_true]
      refine hQ' _ _ _ (fun _ hs => hs.2.2.2) ⟨k + 2, by omega, fun j hj => ?_, ?_, ?_, ?_, ?_, rfl⟩ ?_
      · rcases Nat.lt_succ_iff_lt_or_eq.1 hj with h | rfl
        · exact hdone j h
        · exact hA.2 ⟨hal, fun h => absurd h (by omega), fun _ => hfo⟩
      · (first | (simp -implicitDefEqProofs (disch := omega) only [go_sem, e0, e5, e6, e7]; done) | (simp -implicitDefEqProofs (disch := omega) only [go_sem, e0, e5, e6, e7]; rfl))
      · (first | (simp -implicitDefEqProofs (disch := omega) only [go_sem, e0, e5, e6, e7]; done) | (simp -implicitDefEqProofs (disch := omega) only [go_sem, e0, e5, e6, e7]; rfl))
      · (first | (simp -implicitDefEqProofs (disch := omega) only [go_sem, e0, e5, e6, e7]; done) | (simp -implicitDefEqProofs (disch := omega) only [go_sem, e0, e5, e6, e7]; rfl))
      · (first | (simp -implicitDefEqProofs (disch := omega) only [go_sem, e0, e5, e6, e7]; done) | (simp -implicitDefEqProofs (disch := omega) only [go_sem, e0, e5, e6, e7]; rfl))
      · simp -implicitDefEqProofs (disch := omega) only [go_sem, e0, e5, e6, e7, hmi]; omega
    · rw [hbad (fun h => hfo ((hA.1 h).2.2 (by omega)))] at hQ
      simp -implicitDefEqProofs (disch := omega) only [go_sem, e0, e5, e6, e7, hfo, decide_false]
      exact hQ _ _ fun w' hs => ⟨rfl, hs.anchor (by simp)⟩
end Go.Proofs.Ytjcchmlideknpaa
