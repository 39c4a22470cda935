/- points' reference: the walks: whether points are right; which one is near. -/
import Derived.Test.YtjcchmlideknpaaPtP
import Derived.Test.YtjcchmlideknpaaPtS
namespace Go.Proofs.Ytjcchmlideknpaa
set_option linter.unusedSimpArgs false
set_option linter.unusedVariables false
open H
theorem pt_at5 {w : World} {a : Option Addr} {l : List Pt.P} (hr : Rd w a l.length 5 (ofL Pt.ptC Pt.p0 l)) (i : Nat) (hi : i < l.length) :
    ∃ b o, a = some ⟨b, o, none⟩ ∧ b < w.heap.size ∧ w.cell? ⟨b, o + i * 5, none⟩ = some (.int .i64 (l.getD i Pt.p0).bit) ∧ w.cell? ⟨b, o + i * 5 + 1, none⟩ = some (.int .i64 (l.getD i Pt.p0).out) ∧ w.cell? ⟨b, o + i * 5 + 2, none⟩ = some (.int .i64 (l.getD i Pt.p0).tok) ∧ w.cell? ⟨b, o + i * 5 + 3, none⟩ = some (.int .i64 (l.getD i Pt.p0).frm) := by
  obtain ⟨b, o, e, hb, hc, hj⟩ := hr.at_ i hi
  exact ⟨b, o, e, hb, hj 0 (by omega), hj 1 (by omega), hj 2 (by omega), hj 3 (by omega)⟩
set_option maxRecDepth 20000 in
set_option maxHeartbeats 4000000 in
theorem rpts_right (l : List Pt.P) (a : Option Addr) (c : Nat) (hll : l.length ≤ 2147483648) (hin : ∀ p ∈ l, Pt.InR p) (w : World) (hr : Rd w a l.length 5 (ofL Pt.ptC Pt.p0 l)) :
    Does Try.prog 13 #[.slice a l.length c] w fun v w' => v = .bool (decide (Pt.Right l)) ∧ Ext [] w w' := by
  refine does (args := [.slice a l.length c]) Try.func13 rfl (by kernel_rfl) (by kernel_rfl) rfl ent_13 (Sat.start w []) ?_; intro QV hQ
  by_cases hl0 : l.length = 0
  · have q0 : decide ((l.length : Int) = 0) = true := decide_eq_true (by omega)
    simp -implicitDefEqProofs (disch := omega) only [go_sem, q0]
    exact hQ _ _ fun w' hs => ⟨by rw [decide_eq_false]; exact fun h => by have := h.1; omega, hs.anchor (by simp)⟩
  have q0 : decide ((l.length : Int) = 0) = false := decide_eq_false (by omega)
  have q1 : (0 : Int) < (l.length : Int) := by omega
  obtain ⟨b, o, rfl, hb, _, d1, d2, d3⟩ := pt_at5 hr 0 (by omega)
  rw [Nat.zero_mul, Nat.add_zero] at d1 d2 d3
  have hR0 : Pt.Right l → (l.getD 0 Pt.p0).out = 0 ∧ (l.getD 0 Pt.p0).tok = 0 ∧ (l.getD 0 Pt.p0).frm = 0 := fun h => by
    obtain ⟨⟨_, _, _, k4, k5, _⟩, k7, _⟩ := h.2 0 (by omega)
    obtain ⟨k8, k9⟩ := k7 rfl
    exact ⟨k8, k9, by omega⟩
  by_cases z1 : (l.getD 0 Pt.p0).out = 0
  rotate_left
  · simp -implicitDefEqProofs (disch := omega) only [go_sem, q0, q1, d1, z1, decide_false]
    exact hQ _ _ fun w' hs => ⟨by rw [decide_eq_false]; exact fun h => z1 (hR0 h).1, hs.anchor (by simp)⟩
  by_cases z2 : (l.getD 0 Pt.p0).tok = 0
  rotate_left
  · simp -implicitDefEqProofs (disch := omega) only [go_sem, q0, q1, d1, d2, z1, z2, decide_true, decide_false]
    exact hQ _ _ fun w' hs => ⟨by rw [decide_eq_false]; exact fun h => z2 (hR0 h).2.1, hs.anchor (by simp)⟩
  by_cases z3 : (l.getD 0 Pt.p0).frm = 0
  rotate_left
  · simp -implicitDefEqProofs (disch := omega) only [go_sem, q0, q1, d1, d2, d3, z1, z2, z3, decide_true, decide_false]
    exact hQ _ _ fun w' hs => ⟨by rw [decide_eq_false]; exact fun h => z3 (hR0 h).2.2, hs.anchor (by simp)⟩
  simp -implicitDefEqProofs (disch := omega) only [go_sem, q0, q1, d1, d2, d3, z1, z2, z3, decide_true]
  refine RLoop_intro (fun f h => ∃ (i : Nat), i ≤ l.length ∧ (∀ j, j < i → Pt.At l j) ∧ f 0 = .slice (some ⟨b, o, none⟩) l.length c ∧ f 3 = .int .i64 (i : Int) ∧ h = [.anchor w []]) (fun f _ => (l.length - ival (f 3)).toNat) ?_ ?_
  · exact ⟨0, by omega, fun j hj => absurd hj (by omega), by (first | (simp -implicitDefEqProofs (disch := omega) only [go_sem]; done) | (simp -implicitDefEqProofs (disch := omega) only [go_sem]; rfl)), by (first | (simp -implicitDefEqProofs (disch := omega) only [go_sem]; done) | (simp -implicitDefEqProofs (disch := omega) only [go_sem]; rfl)), rfl⟩
  rintro f h ⟨i, hi, hdone, e0, e3, rfl⟩ Q' hQ'
  have hmi : ival (f 3) = (i : Int) := by rw [e3]; rfl
  by_cases hil : i < l.length
  rotate_left
  · have g1 : ¬ (i : Int) < (l.length : Int) := by omega
    obtain rfl : i = l.length := by omega
    have hRt : Pt.Right l := ⟨by omega, hdone⟩
    have hRd : decide (Pt.Right l) = true := decide_eq_true hRt
    simp -implicitDefEqProofs (disch := omega) only [go_sem, e0, e3, g1, decide_false]
    exact hQ _ _ fun w' hs => ⟨by rw [hRd], hs.anchor (by simp)⟩
  have g1 : (i : Int) < (l.length : Int) := by omega
  obtain ⟨b', o', hbo, _, hc, _⟩ := pt_at hr i hil
  injection hbo with hbo
  injection hbo with hb1 hb2
  subst hb1 hb2
  have hpi := in_getD hin hil
  have hA : Pt.At l i ↔ Pt.Alone (l.getD i Pt.p0) ∧ (i = 0 → (l.getD i Pt.p0).out = 0 ∧ (l.getD i Pt.p0).tok = 0) ∧ (0 < i → Pt.Follows (l.getD (i - 1) Pt.p0) (l.getD i Pt.p0)) := Iff.rfl
  have hbad : ¬ Pt.At l i → decide (Pt.Right l) = false := fun h => decide_eq_false fun hx => h (hx.2 i hil)
  have hnext : Pt.At l i → ∀ j, j < i + 1 → Pt.At l j := fun h j hj => by
    rcases Nat.lt_succ_iff_lt_or_eq.1 hj with hx | rfl
    · exact hdone j hx
    · exact h
  have hzero : i = 0 → (l.getD i Pt.p0).out = 0 ∧ (l.getD i Pt.p0).tok = 0 := fun h => by rw [h]; exact ⟨z1, z2⟩
  generalize l.getD i Pt.p0 = p at *
  have hAl : Pt.Alone p ↔ 0 ≤ p.bit ∧ 0 ≤ p.out ∧ 0 ≤ p.tok ∧ 0 ≤ p.frm ∧ p.frm ≤ p.out ∧ p.out - p.frm ≤ 4096 ∧ (p.win.length : Int) = min p.out 32768 := Iff.rfl
  obtain ⟨⟨hb1, hb2⟩, ⟨ho1, ho2⟩, ⟨ht1, ht2⟩, ⟨hf1, hf2⟩, hw⟩ := hpi
  simp only [maxLen] at hw
  simp -implicitDefEqProofs (disch := omega) only [go_sem, e0, e3, g1, hc, decide_true]
  refine RNew_intro fun g hg => ?_
  simp only [below_cons, below_nil, under_anchor, and_true] at hg
  have hbg : b ≠ g := Nat.ne_of_lt (Nat.lt_of_lt_of_le hb hg)
  simp -implicitDefEqProofs (disch := omega) only [go_sem, e0, e3]
  by_cases k1 : p.bit < 0
  · rw [hbad (fun h => by have := hAl.1 (hA.1 h).1; omega)] at hQ
    simp -implicitDefEqProofs (disch := omega) only [go_sem, e0, e3, k1, decide_true]
    exact hQ _ _ fun w' hs => ⟨rfl, hs.anchor (by simp)⟩
  by_cases k2 : p.out < 0
  · rw [hbad (fun h => by have := hAl.1 (hA.1 h).1; omega)] at hQ
    simp -implicitDefEqProofs (disch := omega) only [go_sem, e0, e3, k1, k2, decide_true]
    exact hQ _ _ fun w' hs => ⟨rfl, hs.anchor (by simp)⟩
  by_cases k3 : p.tok < 0
  · rw [hbad (fun h => by have := hAl.1 (hA.1 h).1; omega)] at hQ
    simp -implicitDefEqProofs (disch := omega) only [go_sem, e0, e3, k1, k2, k3, decide_true]
    exact hQ _ _ fun w' hs => ⟨rfl, hs.anchor (by simp)⟩
  by_cases k4 : p.frm < 0
  · rw [hbad (fun h => by have := hAl.1 (hA.1 h).1; omega)] at hQ
    simp -implicitDefEqProofs (disch := omega) only [go_sem, e0, e3, k1, k2, k3, k4, decide_true]
    exact hQ _ _ fun w' hs => ⟨rfl, hs.anchor (by simp)⟩
  by_cases k5 : p.out < p.frm
  · rw [hbad (fun h => by have := hAl.1 (hA.1 h).1; omega)] at hQ
    simp -implicitDefEqProofs (disch := omega) only [go_sem, e0, e3, k1, k2, k3, k4, k5, decide_true]
    exact hQ _ _ fun w' hs => ⟨rfl, hs.anchor (by simp)⟩
  by_cases k6 : 4096 < p.out - p.frm
  · rw [hbad (fun h => by have := hAl.1 (hA.1 h).1; omega)] at hQ
    simp -implicitDefEqProofs (disch := omega) only [go_sem, e0, e3, k1, k2, k3, k4, k5, k6, decide_true]
    exact hQ _ _ fun w' hs => ⟨rfl, hs.anchor (by simp)⟩
  by_cases k7 : (p.win.length : Int) = min p.out 32768
  rotate_left
  · rw [hbad (fun h => k7 (hAl.1 (hA.1 h).1).2.2.2.2.2.2)] at hQ
    simp -implicitDefEqProofs (disch := omega) only [go_sem, e0, e3, k1, k2, k3, k4, k5, k6, k7, decide_false]
    exact hQ _ _ fun w' hs => ⟨rfl, hs.anchor (by simp)⟩
  have hal : Pt.Alone p := hAl.2 ⟨by omega, by omega, by omega, by omega, by omega, by omega, k7⟩
  simp -implicitDefEqProofs (disch := omega) only [go_sem, e0, e3, k1, k2, k3, k4, k5, k6, k7, decide_true]
  refine RDraw_seg (by kernel_rfl) (by kernel_rfl) 46 rfl ?_
  refine RS_det (by kernel_rfl) ?_
  cases i with
  | zero =>
    have z0 : decide ((0 : Int) < ((0 : Nat) : Int)) = false := rfl
    repeat (first | refine ToO_step (fun Q hq => by (simp -implicitDefEqProofs (disch := omega) only [go_sem, e0, e3, z0]; exact hq)) ?_ | refine ToO_guard (by (simp -implicitDefEqProofs only [go_sem, e0, e3, z0]; first | done | fail)) (fun Q hq => by (simp -implicitDefEqProofs (disch := omega) only [go_sem, e0, e3, z0]; exact hq)) ?_ | refine ToO_skip (.inl (by (simp -implicitDefEqProofs only [go_sem, e0, e3, z0]; first | done | fail))) ?_ | refine ToO_skip (.inr (by (simp -implicitDefEqProofs only [go_sem, e0, e3, z0]; first | done | fail))) ?_)
    refine ToO_nil ?_
    simp -implicitDefEqProofs (disch := omega) only [go_sem, e0, e3]
    refine hQ' _ _ _ (fun _ hs => hs.2.2.2) ⟨1, by omega, hnext (hA.2 ⟨hal, hzero, fun h => absurd h (by omega)⟩), ?_, ?_, rfl⟩ ?_
    · (first | (simp -implicitDefEqProofs (disch := omega) only [go_sem, e0, e3]; done) | (simp -implicitDefEqProofs (disch := omega) only [go_sem, e0, e3]; rfl))
    · (first | (simp -implicitDefEqProofs (disch := omega) only [go_sem, e0, e3]; done) | (simp -implicitDefEqProofs (disch := omega) only [go_sem, e0, e3]; rfl))
    · simp -implicitDefEqProofs (disch := omega) only [go_sem, e0, e3, hmi]; omega
  | succ k =>
    have z0 : decide ((0 : Int) < ((k + 1 : Nat) : Int)) = true := decide_eq_true (by omega)
    have hk1 : ((k + 1 : Nat) : Int) - 1 = (k : Int) := by omega
    have gk : (k : Int) < (l.length : Int) := by omega
    obtain ⟨b', o', hbo, _, e0', e1', e2', e3'⟩ := pt_at5 hr k (by omega)
    injection hbo with hbo
    injection hbo with hb1 hb2
    subst hb1 hb2
    rw [Nat.add_sub_cancel] at hA
    generalize l.getD k Pt.p0 = q at *
    have hFo : Pt.Follows q p ↔ q.bit < p.bit ∧ q.out < p.out ∧ q.tok ≤ p.tok ∧ q.frm ≤ p.frm := Iff.rfl
    by_cases j1 : p.bit ≤ q.bit
    · rw [hbad (fun h => by have := hFo.1 ((hA.1 h).2.2 (by omega)); omega)] at hQ
      repeat (first | refine ToO_step (fun Q hq => by (simp -implicitDefEqProofs (disch := omega) only [go_sem, e0, e3, e0', e1', e2', e3', j1, z0, hk1, gk, decide_true]; exact hq)) ?_ | refine ToO_guard (by (simp -implicitDefEqProofs only [go_sem, e0, e3, e0', e1', e2', e3', j1, z0, hk1, gk, decide_true]; first | done | fail)) (fun Q hq => by (simp -implicitDefEqProofs (disch := omega) only [go_sem, e0, e3, e0', e1', e2', e3', j1, z0, hk1, gk, decide_true]; exact hq)) ?_ | refine ToO_skip (.inl (by (simp -implicitDefEqProofs only [go_sem, e0, e3, e0', e1', e2', e3', j1, z0, hk1, gk, decide_true]; first | done | fail))) ?_ | refine ToO_skip (.inr (by (simp -implicitDefEqProofs only [go_sem, e0, e3, e0', e1', e2', e3', j1, z0, hk1, gk, decide_true]; first | done | fail))) ?_)
      refine ToO_nil ?_
      simp -implicitDefEqProofs (disch := omega) only [go_sem, e0, e3]
      exact hQ _ _ fun w' hs => ⟨rfl, hs.anchor (by simp)⟩
    by_cases j2 : p.out ≤ q.out
    · rw [hbad (fun h => by have := hFo.1 ((hA.1 h).2.2 (by omega)); omega)] at hQ
      repeat (first | refine ToO_step (fun Q hq => by (simp -implicitDefEqProofs (disch := omega) only [go_sem, e0, e3, e0', e1', e2', e3', j1, j2, z0, hk1, gk, decide_true, decide_false]; exact hq)) ?_ | refine ToO_guard (by (simp -implicitDefEqProofs only [go_sem, e0, e3, e0', e1', e2', e3', j1, j2, z0, hk1, gk, decide_true, decide_false]; first | done | fail)) (fun Q hq => by (simp -implicitDefEqProofs (disch := omega) only [go_sem, e0, e3, e0', e1', e2', e3', j1, j2, z0, hk1, gk, decide_true, decide_false]; exact hq)) ?_ | refine ToO_skip (.inl (by (simp -implicitDefEqProofs only [go_sem, e0, e3, e0', e1', e2', e3', j1, j2, z0, hk1, gk, decide_true, decide_false]; first | done | fail))) ?_ | refine ToO_skip (.inr (by (simp -implicitDefEqProofs only [go_sem, e0, e3, e0', e1', e2', e3', j1, j2, z0, hk1, gk, decide_true, decide_false]; first | done | fail))) ?_)
      refine ToO_nil ?_
      simp -implicitDefEqProofs (disch := omega) only [go_sem, e0, e3]
      exact hQ _ _ fun w' hs => ⟨rfl, hs.anchor (by simp)⟩
    by_cases j3 : p.tok < q.tok
    · rw [hbad (fun h => by have := hFo.1 ((hA.1 h).2.2 (by omega)); omega)] at hQ
      repeat (first | refine ToO_step (fun Q hq => by (simp -implicitDefEqProofs (disch := omega) only [go_sem, e0, e3, e0', e1', e2', e3', j1, j2, j3, z0, hk1, gk, decide_true, decide_false]; exact hq)) ?_ | refine ToO_guard (by (simp -implicitDefEqProofs only [go_sem, e0, e3, e0', e1', e2', e3', j1, j2, j3, z0, hk1, gk, decide_true, decide_false]; first | done | fail)) (fun Q hq => by (simp -implicitDefEqProofs (disch := omega) only [go_sem, e0, e3, e0', e1', e2', e3', j1, j2, j3, z0, hk1, gk, decide_true, decide_false]; exact hq)) ?_ | refine ToO_skip (.inl (by (simp -implicitDefEqProofs only [go_sem, e0, e3, e0', e1', e2', e3', j1, j2, j3, z0, hk1, gk, decide_true, decide_false]; first | done | fail))) ?_ | refine ToO_skip (.inr (by (simp -implicitDefEqProofs only [go_sem, e0, e3, e0', e1', e2', e3', j1, j2, j3, z0, hk1, gk, decide_true, decide_false]; first | done | fail))) ?_)
      refine ToO_nil ?_
      simp -implicitDefEqProofs (disch := omega) only [go_sem, e0, e3]
      exact hQ _ _ fun w' hs => ⟨rfl, hs.anchor (by simp)⟩
    by_cases j4 : p.frm < q.frm
    · rw [hbad (fun h => by have := hFo.1 ((hA.1 h).2.2 (by omega)); omega)] at hQ
      repeat (first | refine ToO_step (fun Q hq => by (simp -implicitDefEqProofs (disch := omega) only [go_sem, e0, e3, e0', e1', e2', e3', j1, j2, j3, j4, z0, hk1, gk, decide_true, decide_false]; exact hq)) ?_ | refine ToO_guard (by (simp -implicitDefEqProofs only [go_sem, e0, e3, e0', e1', e2', e3', j1, j2, j3, j4, z0, hk1, gk, decide_true, decide_false]; first | done | fail)) (fun Q hq => by (simp -implicitDefEqProofs (disch := omega) only [go_sem, e0, e3, e0', e1', e2', e3', j1, j2, j3, j4, z0, hk1, gk, decide_true, decide_false]; exact hq)) ?_ | refine ToO_skip (.inl (by (simp -implicitDefEqProofs only [go_sem, e0, e3, e0', e1', e2', e3', j1, j2, j3, j4, z0, hk1, gk, decide_true, decide_false]; first | done | fail))) ?_ | refine ToO_skip (.inr (by (simp -implicitDefEqProofs only [go_sem, e0, e3, e0', e1', e2', e3', j1, j2, j3, j4, z0, hk1, gk, decide_true, decide_false]; first | done | fail))) ?_)
      refine ToO_nil ?_
      simp -implicitDefEqProofs (disch := omega) only [go_sem, e0, e3]
      exact hQ _ _ fun w' hs => ⟨rfl, hs.anchor (by simp)⟩
    repeat (first | refine ToO_step (fun Q hq => by (simp -implicitDefEqProofs (disch := omega) only [go_sem, e0, e3, e0', e1', e2', e3', j1, j2, j3, j4, z0, hk1, gk, decide_true, decide_false]; exact hq)) ?_ | refine ToO_guard (by (simp -implicitDefEqProofs only [go_sem, e0, e3, e0', e1', e2', e3', j1, j2, j3, j4, z0, hk1, gk, decide_true, decide_false]; first | done | fail)) (fun Q hq => by (simp -implicitDefEqProofs (disch := omega) only [go_sem, e0, e3, e0', e1', e2', e3', j1, j2, j3, j4, z0, hk1, gk, decide_true, decide_false]; exact hq)) ?_ | refine ToO_skip (.inl (by (simp -implicitDefEqProofs only [go_sem, e0, e3, e0', e1', e2', e3', j1, j2, j3, j4, z0, hk1, gk, decide_true, decide_false]; first | done | fail))) ?_ | refine ToO_skip (.inr (by (simp -implicitDefEqProofs only [go_sem, e0, e3, e0', e1', e2', e3', j1, j2, j3, j4, z0, hk1, gk, decide_true, decide_false]; first | done | fail))) ?_)
    refine ToO_nil ?_
    simp -implicitDefEqProofs (disch := omega) only [go_sem, e0, e3]
    refine hQ' _ _ _ (fun _ hs => hs.2.2.2) ⟨k + 2, by omega, hnext (hA.2 ⟨hal, hzero, fun _ => hFo.2 ⟨by omega, by omega, by omega, by omega⟩⟩), ?_, ?_, rfl⟩ ?_
    · (first | (simp -implicitDefEqProofs (disch := omega) only [go_sem, e0, e3]; done) | (simp -implicitDefEqProofs (disch := omega) only [go_sem, e0, e3]; rfl))
    · (first | (simp -implicitDefEqProofs (disch := omega) only [go_sem, e0, e3]; done) | (simp -implicitDefEqProofs (disch := omega) only [go_sem, e0, e3]; rfl))
    · simp -implicitDefEqProofs (disch := omega) only [go_sem, e0, e3, hmi]; omega
set_option maxHeartbeats 1000000 in
theorem rpts_near (l : List Pt.P) (a : Option Addr) (c : Nat) (at_ : Int) (hll : l.length ≤ 2147483648) (hR : Pt.Right l) (w : World) (hr : Rd w a l.length 5 (ofL Pt.ptC Pt.p0 l)) :
    Does Try.prog 15 #[.slice a l.length c, .int .i64 at_] w fun v w' => v = .int .i64 (Pt.near l at_) ∧ Ext [] w w' := by
  refine does (args := [.slice a l.length c, .int .i64 at_]) Try.func15 rfl (by kernel_rfl) (by kernel_rfl) rfl ent_15 (Sat.start w []) ?_; intro QV hQ
  obtain ⟨k, hk1, hk2, hk3, hk4⟩ := Pt.near_at hR at_
  rw [hk2] at hQ
  simp -implicitDefEqProofs (disch := omega) only [go_sem]
  refine RLoop_intro (fun f h => ∃ (i : Nat), i ≤ l.length ∧ f 0 = .slice a l.length c ∧ f 1 = .int .i64 at_ ∧ f 5 = .int .i64 ((min i k : Nat) - 1 : Int) ∧ f 6 = .int .i64 (i : Int) ∧ h = [.anchor w []]) (fun f _ => (l.length - ival (f 6)).toNat) ?_ ?_
  · exact ⟨0, by omega, by (first | (simp -implicitDefEqProofs (disch := omega) only [go_sem]; done) | (simp -implicitDefEqProofs (disch := omega) only [go_sem]; rfl)), by (first | (simp -implicitDefEqProofs (disch := omega) only [go_sem]; done) | (simp -implicitDefEqProofs (disch := omega) only [go_sem]; rfl)), by rw [Nat.zero_min]; (first | (simp -implicitDefEqProofs (disch := omega) only [go_sem]; done) | (simp -implicitDefEqProofs (disch := omega) only [go_sem]; rfl)), by (first | (simp -implicitDefEqProofs (disch := omega) only [go_sem]; done) | (simp -implicitDefEqProofs (disch := omega) only [go_sem]; rfl)), rfl⟩
  rintro f h ⟨i, hi, e0, e1, e5, e6, rfl⟩ Q' hQ'
  have hmi : ival (f 6) = (i : Int) := by rw [e6]; rfl
  by_cases hil : i < l.length
  · have g1 : (i : Int) < (l.length : Int) := by omega
    obtain ⟨b, o, rfl, hb, _, hc⟩ := pt_at hr i hil
    by_cases hik : i < k
    · have h1 := hk3 i hik
      have hm : ((min (i + 1) k : Nat) : Int) - 1 = (i : Int) := by omega
      simp -implicitDefEqProofs (disch := omega) only [go_sem, e0, e1, e5, e6, g1, hc, h1, decide_true]
      refine hQ' _ _ _ (fun _ hs => hs) ⟨i + 1, by omega, ?_, ?_, ?_, ?_, rfl⟩ ?_
      · (first | (simp -implicitDefEqProofs (disch := omega) only [go_sem, e0, e1, e5, e6]; done) | (simp -implicitDefEqProofs (disch := omega) only [go_sem, e0, e1, e5, e6]; rfl))
      · (first | (simp -implicitDefEqProofs (disch := omega) only [go_sem, e0, e1, e5, e6]; done) | (simp -implicitDefEqProofs (disch := omega) only [go_sem, e0, e1, e5, e6]; rfl))
      · rw [hm]; (first | (simp -implicitDefEqProofs (disch := omega) only [go_sem, e0, e1, e5, e6]; done) | (simp -implicitDefEqProofs (disch := omega) only [go_sem, e0, e1, e5, e6]; rfl))
      · (first | (simp -implicitDefEqProofs (disch := omega) only [go_sem, e0, e1, e5, e6]; done) | (simp -implicitDefEqProofs (disch := omega) only [go_sem, e0, e1, e5, e6]; rfl))
      · simp -implicitDefEqProofs (disch := omega) only [go_sem, e0, e1, e5, e6, hmi]; omega
    · have h1 := hk4 i (by omega) hil
      have h2 : ¬ (l.getD i Pt.p0).out ≤ at_ := by omega
      have hm : min (i + 1) k = min i k := by omega
      simp -implicitDefEqProofs (disch := omega) only [go_sem, e0, e1, e5, e6, g1, hc, h2, decide_true, decide_false]
      refine hQ' _ _ _ (fun _ hs => hs) ⟨i + 1, by omega, ?_, ?_, ?_, ?_, rfl⟩ ?_
      · (first | (simp -implicitDefEqProofs (disch := omega) only [go_sem, e0, e1, e5, e6]; done) | (simp -implicitDefEqProofs (disch := omega) only [go_sem, e0, e1, e5, e6]; rfl))
      · (first | (simp -implicitDefEqProofs (disch := omega) only [go_sem, e0, e1, e5, e6]; done) | (simp -implicitDefEqProofs (disch := omega) only [go_sem, e0, e1, e5, e6]; rfl))
      · rw [hm]; (first | (simp -implicitDefEqProofs (disch := omega) only [go_sem, e0, e1, e5, e6]; done) | (simp -implicitDefEqProofs (disch := omega) only [go_sem, e0, e1, e5, e6]; rfl))
      · (first | (simp -implicitDefEqProofs (disch := omega) only [go_sem, e0, e1, e5, e6]; done) | (simp -implicitDefEqProofs (disch := omega) only [go_sem, e0, e1, e5, e6]; rfl))
      · simp -implicitDefEqProofs (disch := omega) only [go_sem, e0, e1, e5, e6, hmi]; omega
  · have g1 : ¬ (i : Int) < (l.length : Int) := by omega
    have hm : min i k = k := by omega
    rw [hm] at e5
    simp -implicitDefEqProofs (disch := omega) only [go_sem, e0, e1, e5, e6, g1, decide_false]
    exact hQ _ _ fun w' hs => ⟨rfl, hs.anchor (by simp)⟩
end Go.Proofs.Ytjcchmlideknpaa
