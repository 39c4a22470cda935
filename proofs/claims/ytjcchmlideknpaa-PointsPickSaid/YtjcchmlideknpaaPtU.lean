/- points' reference: the walks: starts in order; the point of a start. -/
import Derived.Test.YtjcchmlideknpaaPtT
namespace Go.Proofs.Ytjcchmlideknpaa
set_option linter.unusedSimpArgs false
set_option linter.unusedVariables false
open H
def ROAt (l : List Pt.St) (size : Int) (i : Nat) : Prop := 0 ≤ (l.getD i Pt.st0).1 ∧ 0 ≤ (l.getD i Pt.st0).2 ∧ (l.getD i Pt.st0).2 ≤ size ∧ (0 < i → (l.getD (i - 1) Pt.st0).2 ≤ (l.getD i Pt.st0).2 ∧ (l.getD (i - 1) Pt.st0).1 < (l.getD i Pt.st0).1)
theorem orderly_iff (l : List Pt.St) (size : Int) : Pt.Orderly l size ↔ 0 < l.length ∧ (l.getD 0 Pt.st0).2 = 0 ∧ ∀ i, i < l.length → ROAt l size i := by
  constructor
  · intro h
    refine ⟨h.2.1, h.2.2, fun i hi => ?_⟩
    have hr := Pt.ord_range h (Pt.getD_mem Pt.st0 hi)
    refine ⟨hr.1, hr.2.1, hr.2.2, fun hp => ?_⟩
    have := Pt.ord_at h (i - 1) i (by omega) hi
    exact ⟨this.2, this.1⟩
  · rintro ⟨h1, h2, h3⟩
    refine ⟨fun i hi => ?_, h1, h2⟩
    obtain ⟨k1, k2, k3, k4⟩ := h3 i hi
    refine ⟨?_, k3⟩
    by_cases h0 : i = 0
    · rw [if_pos h0]; exact ⟨k1, k2⟩
    · rw [if_neg h0]
      have := k4 (by omega)
      exact ⟨this.2, this.1⟩
set_option maxRecDepth 20000 in
set_option maxHeartbeats 4000000 in
theorem rpts_orderly (l : List Pt.St) (a : Option Addr) (c : Nat) (size : Int) (hll : l.length ≤ 2147483648) (w : World) (hr : Rd w a l.length 2 (ofL Pt.stC Pt.st0 l)) :
    Does Try.prog 41 #[.slice a l.length c, .int .i64 size] w fun v w' => v = .bool (decide (Pt.Orderly l size)) ∧ Ext [] w w' := by
  refine does (args := [.slice a l.length c, .int .i64 size]) Try.func41 rfl (by kernel_rfl) (by kernel_rfl) rfl ent_41 (Sat.start w []) ?_; intro QV hQ
  have hO := orderly_iff l size
  by_cases hl0 : l.length = 0
  · have q0 : decide ((l.length : Int) = 0) = true := decide_eq_true (by omega)
    simp -implicitDefEqProofs (disch := omega) only [go_sem, q0]
    exact hQ _ _ fun w' hs => ⟨by rw [decide_eq_false]; rw [hO]; omega, hs.anchor (by simp)⟩
  have q0 : decide ((l.length : Int) = 0) = false := decide_eq_false (by omega)
  have q1 : (0 : Int) < (l.length : Int) := by omega
  obtain ⟨b0, o0, rfl, hb0, _, hc00⟩ := rstart_at hr 0 (by omega)
  rw [Nat.zero_mul, Nat.add_zero] at hc00
  by_cases hz : (l.getD 0 Pt.st0).2 = 0
  rotate_left
  · simp -implicitDefEqProofs (disch := omega) only [go_sem, q0, q1, hc00, hz, decide_false]
    exact hQ _ _ fun w' hs => ⟨by rw [decide_eq_false]; rw [hO]; exact fun h => hz h.2.1, hs.anchor (by simp)⟩
  simp -implicitDefEqProofs (disch := omega) only [go_sem, q0, q1, hc00, hz, decide_true]
  refine RLoop_intro (fun f h => ∃ (i : Nat), i ≤ l.length ∧ (∀ j, j < i → ROAt l size j) ∧ f 0 = .slice (some ⟨b0, o0, none⟩) l.length c ∧ f 1 = .int .i64 size ∧ f 5 = .int .i64 (i : Int) ∧ h = [.anchor w []]) (fun f _ => (l.length - ival (f 5)).toNat) ?_ ?_
  · exact ⟨0, by omega, fun j hj => absurd hj (by omega), by (first | (simp -implicitDefEqProofs (disch := omega) only [go_sem]; done) | (simp -implicitDefEqProofs (disch := omega) only [go_sem]; rfl)), by (first | (simp -implicitDefEqProofs (disch := omega) only [go_sem]; done) | (simp -implicitDefEqProofs (disch := omega) only [go_sem]; rfl)), by (first | (simp -implicitDefEqProofs (disch := omega) only [go_sem]; done) | (simp -implicitDefEqProofs (disch := omega) only [go_sem]; rfl)), rfl⟩
  rintro f h ⟨i, hi, hdone, e0, e1, e5, rfl⟩ Q' hQ'
  have hmi : ival (f 5) = (i : Int) := by rw [e5]; rfl
  by_cases hil : i < l.length
  rotate_left
  · have g1 : ¬ (i : Int) < (l.length : Int) := by omega
    obtain rfl : i = l.length := by omega
    simp -implicitDefEqProofs (disch := omega) only [go_sem, e0, e1, e5, g1, decide_false]
    exact hQ _ _ fun w' hs => ⟨by rw [decide_eq_true]; exact hO.2 ⟨by omega, hz, hdone⟩, hs.anchor (by simp)⟩
  have g1 : (i : Int) < (l.length : Int) := by omega
  obtain ⟨b, o, hbo, hb, hc0, hc1⟩ := rstart_at hr i hil
  injection hbo with hbo
  injection hbo with hb1 hb2
  subst hb1 hb2
  have hA : ROAt l size i ↔ 0 ≤ (l.getD i Pt.st0).1 ∧ 0 ≤ (l.getD i Pt.st0).2 ∧ (l.getD i Pt.st0).2 ≤ size ∧ (0 < i → (l.getD (i - 1) Pt.st0).2 ≤ (l.getD i Pt.st0).2 ∧ (l.getD (i - 1) Pt.st0).1 < (l.getD i Pt.st0).1) := Iff.rfl
  have hbad : ¬ ROAt l size i → decide (Pt.Orderly l size) = false := fun h => decide_eq_false fun hx => h ((hO.1 hx).2.2 i hil)
  have hnext : ROAt l size i → ∀ j, j < i + 1 → ROAt l size j := fun h j hj => by
    rcases Nat.lt_succ_iff_lt_or_eq.1 hj with hx | rfl
    · exact hdone j hx
    · exact h
  generalize l.getD i Pt.st0 = p at *
  obtain ⟨pb, po⟩ := p
  simp only [] at hA hc0 hc1
  simp -implicitDefEqProofs (disch := omega) only [go_sem, e0, e1, e5, g1, decide_true]
  refine RDraw_seg (by kernel_rfl) (by kernel_rfl) 55 rfl ?_
  refine RS_det (by kernel_rfl) ?_
  by_cases k1 : pb < 0
  · rw [hbad (fun h => by have := (hA.1 h).1; omega)] at hQ
    repeat (first | refine ToO_step (fun Q hq => by (simp -implicitDefEqProofs (disch := omega) only [go_sem, e0, e1, e5, g1, hc0, hc1, k1, decide_true]; exact hq)) ?_ | refine ToO_guard (by (simp -implicitDefEqProofs only [go_sem, e0, e1, e5, g1, hc0, hc1, k1, decide_true]; first | done | fail)) (fun Q hq => by (simp -implicitDefEqProofs (disch := omega) only [go_sem, e0, e1, e5, g1, hc0, hc1, k1, decide_true]; exact hq)) ?_ | refine ToO_skip (.inl (by (simp -implicitDefEqProofs only [go_sem, e0, e1, e5, g1, hc0, hc1, k1, decide_true]; first | done | fail))) ?_ | refine ToO_skip (.inr (by (simp -implicitDefEqProofs only [go_sem, e0, e1, e5, g1, hc0, hc1, k1, decide_true]; first | done | fail))) ?_)
    refine ToO_nil ?_
    simp -implicitDefEqProofs (disch := omega) only [go_sem, e0, e1, e5]
    exact hQ _ _ fun w' hs => ⟨rfl, hs.anchor (by simp)⟩
  by_cases k2 : po < 0
  · rw [hbad (fun h => by have := (hA.1 h).2.1; omega)] at hQ
    repeat (first | refine ToO_step (fun Q hq => by (simp -implicitDefEqProofs (disch := omega) only [go_sem, e0, e1, e5, g1, hc0, hc1, k1, k2, decide_true, decide_false]; exact hq)) ?_ | refine ToO_guard (by (simp -implicitDefEqProofs only [go_sem, e0, e1, e5, g1, hc0, hc1, k1, k2, decide_true, decide_false]; first | done | fail)) (fun Q hq => by (simp -implicitDefEqProofs (disch := omega) only [go_sem, e0, e1, e5, g1, hc0, hc1, k1, k2, decide_true, decide_false]; exact hq)) ?_ | refine ToO_skip (.inl (by (simp -implicitDefEqProofs only [go_sem, e0, e1, e5, g1, hc0, hc1, k1, k2, decide_true, decide_false]; first | done | fail))) ?_ | refine ToO_skip (.inr (by (simp -implicitDefEqProofs only [go_sem, e0, e1, e5, g1, hc0, hc1, k1, k2, decide_true, decide_false]; first | done | fail))) ?_)
    refine ToO_nil ?_
    simp -implicitDefEqProofs (disch := omega) only [go_sem, e0, e1, e5]
    exact hQ _ _ fun w' hs => ⟨rfl, hs.anchor (by simp)⟩
  by_cases k3 : size < po
  · rw [hbad (fun h => by have := (hA.1 h).2.2.1; omega)] at hQ
    repeat (first | refine ToO_step (fun Q hq => by (simp -implicitDefEqProofs (disch := omega) only [go_sem, e0, e1, e5, g1, hc0, hc1, k1, k2, k3, decide_true, decide_false]; exact hq)) ?_ | refine ToO_guard (by (simp -implicitDefEqProofs only [go_sem, e0, e1, e5, g1, hc0, hc1, k1, k2, k3, decide_true, decide_false]; first | done | fail)) (fun Q hq => by (simp -implicitDefEqProofs (disch := omega) only [go_sem, e0, e1, e5, g1, hc0, hc1, k1, k2, k3, decide_true, decide_false]; exact hq)) ?_ | refine ToO_skip (.inl (by (simp -implicitDefEqProofs only [go_sem, e0, e1, e5, g1, hc0, hc1, k1, k2, k3, decide_true, decide_false]; first | done | fail))) ?_ | refine ToO_skip (.inr (by (simp -implicitDefEqProofs only [go_sem, e0, e1, e5, g1, hc0, hc1, k1, k2, k3, decide_true, decide_false]; first | done | fail))) ?_)
    refine ToO_nil ?_
    simp -implicitDefEqProofs (disch := omega) only [go_sem, e0, e1, e5]
    exact hQ _ _ fun w' hs => ⟨rfl, hs.anchor (by simp)⟩
  cases i with
  | zero =>
    have z0 : decide ((0 : Int) < ((0 : Nat) : Int)) = false := rfl
    rw [Nat.zero_mul, Nat.add_zero] at hc0 hc1
    repeat (first | refine ToO_step (fun Q hq => by (simp -implicitDefEqProofs (disch := omega) only [go_sem, e0, e1, e5, g1, hc0, hc1, k1, k2, k3, z0, decide_false]; exact hq)) ?_ | refine ToO_guard (by (simp -implicitDefEqProofs only [go_sem, e0, e1, e5, g1, hc0, hc1, k1, k2, k3, z0, decide_false]; first | done | fail)) (fun Q hq => by (simp -implicitDefEqProofs (disch := omega) only [go_sem, e0, e1, e5, g1, hc0, hc1, k1, k2, k3, z0, decide_false]; exact hq)) ?_ | refine ToO_skip (.inl (by (simp -implicitDefEqProofs only [go_sem, e0, e1, e5, g1, hc0, hc1, k1, k2, k3, z0, decide_false]; first | done | fail))) ?_ | refine ToO_skip (.inr (by (simp -implicitDefEqProofs only [go_sem, e0, e1, e5, g1, hc0, hc1, k1, k2, k3, z0, decide_false]; first | done | fail))) ?_)
    refine ToO_nil ?_
    simp -implicitDefEqProofs (disch := omega) only [go_sem, e0, e1, e5]
    refine hQ' _ _ _ (fun _ hs => hs) ⟨1, by omega, hnext (hA.2 ⟨by omega, by omega, by omega, fun h => absurd h (by omega)⟩), ?_, ?_, ?_, rfl⟩ ?_
    · (first | (simp -implicitDefEqProofs (disch := omega) only [go_sem, e0, e1, e5]; done) | (simp -implicitDefEqProofs (disch := omega) only [go_sem, e0, e1, e5]; rfl))
    · (first | (simp -implicitDefEqProofs (disch := omega) only [go_sem, e0, e1, e5]; done) | (simp -implicitDefEqProofs (disch := omega) only [go_sem, e0, e1, e5]; rfl))
    · (first | (simp -implicitDefEqProofs (disch := omega) only [go_sem, e0, e1, e5]; done) | (simp -implicitDefEqProofs (disch := omega) only [go_sem, e0, e1, e5]; rfl))
    · simp -implicitDefEqProofs (disch := omega) only [go_sem, e0, e1, e5, hmi]; omega
  | succ k =>
    have z0 : decide ((0 : Int) < ((k + 1 : Nat) : Int)) = true := decide_eq_true (by omega)
    have hk1 : ((k + 1 : Nat) : Int) - 1 = (k : Int) := by omega
    have gk : (k : Int) < (l.length : Int) := by omega
    obtain ⟨b', o', hbo, _, hd0, hd1⟩ := rstart_at hr k (by omega)
    injection hbo with hbo
    injection hbo with hb1 hb2
    subst hb1 hb2
    rw [Nat.add_sub_cancel] at hA
    generalize l.getD k Pt.st0 = q at *
    obtain ⟨qb, qo⟩ := q
    simp only [] at hA hd0 hd1
    by_cases k4 : po < qo
    · rw [hbad (fun h => by have := ((hA.1 h).2.2.2 (by omega)).1; omega)] at hQ
      repeat (first | refine ToO_step (fun Q hq => by (simp -implicitDefEqProofs (disch := omega) only [go_sem, e0, e1, e5, g1, hc0, hc1, hd0, hd1, k1, k2, k3, k4, z0, hk1, gk, decide_true, decide_false]; exact hq)) ?_ | refine ToO_guard (by (simp -implicitDefEqProofs only [go_sem, e0, e1, e5, g1, hc0, hc1, hd0, hd1, k1, k2, k3, k4, z0, hk1, gk, decide_true, decide_false]; first | done | fail)) (fun Q hq => by (simp -implicitDefEqProofs (disch := omega) only [go_sem, e0, e1, e5, g1, hc0, hc1, hd0, hd1, k1, k2, k3, k4, z0, hk1, gk, decide_true, decide_false]; exact hq)) ?_ | refine ToO_skip (.inl (by (simp -implicitDefEqProofs only [go_sem, e0, e1, e5, g1, hc0, hc1, hd0, hd1, k1, k2, k3, k4, z0, hk1, gk, decide_true, decide_false]; first | done | fail))) ?_ | refine ToO_skip (.inr (by (simp -implicitDefEqProofs only [go_sem, e0, e1, e5, g1, hc0, hc1, hd0, hd1, k1, k2, k3, k4, z0, hk1, gk, decide_true, decide_false]; first | done | fail))) ?_)
      refine ToO_nil ?_
      simp -implicitDefEqProofs (disch := omega) only [go_sem, e0, e1, e5]
      exact hQ _ _ fun w' hs => ⟨rfl, hs.anchor (by simp)⟩
    by_cases k5 : pb ≤ qb
    · rw [hbad (fun h => by have := ((hA.1 h).2.2.2 (by omega)).2; omega)] at hQ
      repeat (first | refine ToO_step (fun Q hq => by (simp -implicitDefEqProofs (disch := omega) only [go_sem, e0, e1, e5, g1, hc0, hc1, hd0, hd1, k1, k2, k3, k4, k5, z0, hk1, gk, decide_true, decide_false]; exact hq)) ?_ | refine ToO_guard (by (simp -implicitDefEqProofs only [go_sem, e0, e1, e5, g1, hc0, hc1, hd0, hd1, k1, k2, k3, k4, k5, z0, hk1, gk, decide_true, decide_false]; first | done | fail)) (fun Q hq => by (simp -implicitDefEqProofs (disch := omega) only [go_sem, e0, e1, e5, g1, hc0, hc1, hd0, hd1, k1, k2, k3, k4, k5, z0, hk1, gk, decide_true, decide_false]; exact hq)) ?_ | refine ToO_skip (.inl (by (simp -implicitDefEqProofs only [go_sem, e0, e1, e5, g1, hc0, hc1, hd0, hd1, k1, k2, k3, k4, k5, z0, hk1, gk, decide_true, decide_false]; first | done | fail))) ?_ | refine ToO_skip (.inr (by (simp -implicitDefEqProofs only [go_sem, e0, e1, e5, g1, hc0, hc1, hd0, hd1, k1, k2, k3, k4, k5, z0, hk1, gk, decide_true, decide_false]; first | done | fail))) ?_)
      refine ToO_nil ?_
      simp -implicitDefEqProofs (disch := omega) only [go_sem, e0, e1, e5]
      exact hQ _ _ fun w' hs => ⟨rfl, hs.anchor (by simp)⟩
    repeat (first | refine ToO_step (fun Q hq => by (simp -implicitDefEqProofs (disch := omega) only [go_sem, e0, e1, e5, g1, hc0, hc1, hd0, hd1, k1, k2, k3, k4, k5, z0, hk1, gk, decide_true, decide_false]; exact hq)) ?_ | refine ToO_guard (by (simp -implicitDefEqProofs only [go_sem, e0, e1, e5, g1, hc0, hc1, hd0, hd1, k1, k2, k3, k4, k5, z0, hk1, gk, decide_true, decide_false]; first | done | fail)) (fun Q hq => by (simp -implicitDefEqProofs (disch := omega) only [go_sem, e0, e1, e5, g1, hc0, hc1, hd0, hd1, k1, k2, k3, k4, k5, z0, hk1, gk, decide_true, decide_false]; exact hq)) ?_ | refine ToO_skip (.inl (by (simp -implicitDefEqProofs only [go_sem, e0, e1, e5, g1, hc0, hc1, hd0, hd1, k1, k2, k3, k4, k5, z0, hk1, gk, decide_true, decide_false]; first | done | fail))) ?_ | refine ToO_skip (.inr (by (simp -implicitDefEqProofs only [go_sem, e0, e1, e5, g1, hc0, hc1, hd0, hd1, k1, k2, k3, k4, k5, z0, hk1, gk, decide_true, decide_false]; first | done | fail))) ?_)
    refine ToO_nil ?_
    simp -implicitDefEqProofs (disch := omega) only [go_sem, e0, e1, e5]
    refine hQ' _ _ _ (fun _ hs => hs) ⟨k + 2, by omega, hnext (hA.2 ⟨by omega, by omega, by omega, fun _ => ⟨by omega, by omega⟩⟩), ?_, ?_, ?_, rfl⟩ ?_
    · (first | (simp -implicitDefEqProofs (disch := omega) only [go_sem, e0, e1, e5]; done) | (simp -implicitDefEqProofs (disch := omega) only [go_sem, e0, e1, e5]; rfl))
    · (first | (simp -implicitDefEqProofs (disch := omega) only [go_sem, e0, e1, e5]; done) | (simp -implicitDefEqProofs (disch := omega) only [go_sem, e0, e1, e5]; rfl))
    · (first | (simp -implicitDefEqProofs (disch := omega) only [go_sem, e0, e1, e5]; done) | (simp -implicitDefEqProofs (disch := omega) only [go_sem, e0, e1, e5]; rfl))
    · simp -implicitDefEqProofs (disch := omega) only [go_sem, e0, e1, e5, hmi]; omega
end Go.Proofs.Ytjcchmlideknpaa
