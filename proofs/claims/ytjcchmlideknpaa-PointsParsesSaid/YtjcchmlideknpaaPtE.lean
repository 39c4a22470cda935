/- points: the walks: which point is near; whether starts are in order. -/
import Derived.Test.YtjcchmlideknpaaPtD
namespace Go.Proofs.Ytjcchmlideknpaa
set_option linter.unusedSimpArgs false
set_option linter.unusedVariables false
open H
def Sorted (l : List Pt.P) : Prop := ∀ i j, i < j → j < l.length → (l.getD i Pt.p0).out ≤ (l.getD j Pt.p0).out
theorem right_lt {l : List Pt.P} (h : Pt.Right l) : ∀ i j, i < j → j < l.length → (l.getD i Pt.p0).out < (l.getD j Pt.p0).out := by
  intro i j hij hj
  induction j with
  | zero => omega
  | succ j ih =>
    have hf := (h.2 (j + 1) hj).2.2 (by omega)
    have h2 := hf.2.1
    simp only [Nat.add_sub_cancel] at h2
    rcases Nat.lt_succ_iff_lt_or_eq.1 hij with hx | rfl
    · have := ih hx (by omega); omega
    · exact h2
theorem right_sorted {l : List Pt.P} (h : Pt.Right l) : Sorted l := fun i j hij hj => Int.le_of_lt (right_lt h i j hij hj)
/-- How many are not behind a place, where a list is cut. -/
theorem count_cut {α : Type} (d : α) (q : α → Bool) : ∀ (l : List α) (k : Nat), k ≤ l.length → (∀ i, i < k → q (l.getD i d) = true) → (∀ i, k ≤ i → i < l.length → q (l.getD i d) = false) → l.countP q = k
  | [], k, hk, _, _ => by simp at hk; subst hk; rfl
  | x :: l, 0, _, _, h2 => by
    have hx : q x = false := h2 0 (by omega) (by simp)
    rw [List.countP_cons_of_neg (by simp [hx])]
    exact count_cut d q l 0 (by omega) (fun i hi => absurd hi (by omega)) (fun i _ hi => h2 (i + 1) (by omega) (by simp; omega))
  | x :: l, k + 1, hk, h1, h2 => by
    have hx : q x = true := h1 0 (by omega)
    rw [List.countP_cons_of_pos hx, count_cut d q l k (by simpa using hk) (fun i hi => h1 (i + 1) (by omega)) (fun i hi hl => h2 (i + 1) (by omega) (by simp; omega))]
set_option maxHeartbeats 1000000 in
theorem pts_near (l : List Pt.P) (a : Option Addr) (c : Nat) (at_ : Int) (hll : l.length ≤ 2147483648) (hso : Sorted l) (w : World) (hr : Rd w a l.length 5 (ofL Pt.ptC Pt.p0 l)) :
    Does Try.prog 14 #[.slice a l.length c, .int .i64 at_] w fun v w' => v = .int .i64 (Pt.near l at_) ∧ Ext [] w w' := by
  refine does (args := [.slice a l.length c, .int .i64 at_]) Try.func14 rfl (by kernel_rfl) (by kernel_rfl) rfl ent_14 (Sat.start w []) ?_; intro QV hQ
  simp -implicitDefEqProofs (disch := omega) only [go_sem]
  refine RLoop_intro (fun f h => ∃ (lo hi : Nat), lo ≤ hi ∧ hi ≤ l.length ∧ (∀ i, i < lo → (l.getD i Pt.p0).out ≤ at_) ∧ (∀ i, hi ≤ i → i < l.length → at_ < (l.getD i Pt.p0).out) ∧ f 0 = .slice a l.length c ∧ f 1 = .int .i64 at_ ∧ f 5 = .int .i64 (lo : Int) ∧ f 6 = .int .i64 (hi : Int) ∧ h = [.anchor w []]) (fun f _ => (ival (f 6) - ival (f 5)).toNat) ?_ ?_
  · exact ⟨0, l.length, by omega, by omega, fun i hi => absurd hi (by omega), fun i h1 h2 => absurd h2 (by omega), by (first | (simp -implicitDefEqProofs (disch := omega) only [go_sem]; done) | (simp -implicitDefEqProofs (disch := omega) only [go_sem]; rfl)), by (first | (simp -implicitDefEqProofs (disch := omega) only [go_sem]; done) | (simp -implicitDefEqProofs (disch := omega) only [go_sem]; rfl)), by (first | (simp -implicitDefEqProofs (disch := omega) only [go_sem]; done) | (simp -implicitDefEqProofs (disch := omega) only [go_sem]; rfl)), by (first | (simp -implicitDefEqProofs (disch := omega) only [go_sem]; done) | (simp -implicitDefEqProofs (disch := omega) only [go_sem]; rfl)), rfl⟩
  rintro f h ⟨lo, hi, hlh, hhl, h1, h2, e0, e1, e5, e6, rfl⟩ Q' hQ'
  have m5 : ival (f 5) = (lo : Int) := by rw [e5]; rfl
  have m6 : ival (f 6) = (hi : Int) := by rw [e6]; rfl
  by_cases hlt : lo < hi
  rotate_left
  · have g1 : ¬ (lo : Int) < (hi : Int) := by omega
    have hn : Pt.near l at_ = (lo : Int) - 1 := by
      unfold Pt.near
      rw [count_cut Pt.p0 _ l lo (by omega) (fun i hi => decide_eq_true (h1 i hi)) (fun i hi hl => decide_eq_false (by have := h2 i (by omega) hl; omega))]
    rw [hn] at hQ
    simp -implicitDefEqProofs (disch := omega) only [go_sem, e0, e1, e5, e6, g1, decide_false]
    exact hQ _ _ fun w' hs => ⟨rfl, hs.anchor (by simp)⟩
  have g1 : (lo : Int) < (hi : Int) := by omega
  obtain ⟨m, hm⟩ : ∃ m, m = (lo + hi) / 2 := ⟨_, rfl⟩
  have hquo : ((lo : Int) + (hi : Int)).tdiv 2 = (m : Int) := by rw [Int.tdiv_eq_ediv_of_nonneg (by omega)]; omega
  have hml : m < l.length := by omega
  have g2 : (m : Int) < (l.length : Int) := by omega
  obtain ⟨b, o, rfl, hb, hc, hco⟩ := pt_at hr m hml
  generalize hp : l.getD m Pt.p0 = p at *
  by_cases hpo : p.out ≤ at_
  · simp -implicitDefEqProofs (disch := omega) only [go_sem, e0, e1, e5, e6, g1, hquo, g2, hco, hpo, decide_true]
    refine hQ' _ _ _ (fun _ hs => hs) ⟨m + 1, hi, by omega, hhl, fun i hi' => ?_, h2, ?_, ?_, ?_, ?_, rfl⟩ ?_
    · rcases Nat.lt_succ_iff_lt_or_eq.1 hi' with h | rfl
      · have := hso i m h hml
        rw [hp] at this; omega
      · rw [hp]; exact hpo
    · (first | (simp -implicitDefEqProofs (disch := omega) only [go_sem, e0, e1, e5, e6]; done) | (simp -implicitDefEqProofs (disch := omega) only [go_sem, e0, e1, e5, e6]; rfl))
    · (first | (simp -implicitDefEqProofs (disch := omega) only [go_sem, e0, e1, e5, e6]; done) | (simp -implicitDefEqProofs (disch := omega) only [go_sem, e0, e1, e5, e6]; rfl))
    · (first | (simp -implicitDefEqProofs (disch := omega) only [go_sem, e0, e1, e5, e6]; done) | (simp -implicitDefEqProofs (disch := omega) only [go_sem, e0, e1, e5, e6]; rfl))
    · (first | (simp -implicitDefEqProofs (disch := omega) only [go_sem, e0, e1, e5, e6]; done) | (simp -implicitDefEqProofs (disch := omega) only [go_sem, e0, e1, e5, e6]; rfl))
    · simp -implicitDefEqProofs (disch := omega) only [go_sem, e0, e1, e5, e6, m5, m6]; omega
  · simp -implicitDefEqProofs (disch := omega) only [go_sem, e0, e1, e5, e6, g1, hquo, g2, hco, hpo, decide_true, decide_false]
    refine hQ' _ _ _ (fun _ hs => hs) ⟨lo, m, by omega, by omega, h1, fun i hi' hl' => ?_, ?_, ?_, ?_, ?_, rfl⟩ ?_
    · rcases Nat.eq_or_lt_of_le hi' with rfl | h
      · rw [hp]; omega
      · have := hso m i h hl'
        rw [hp] at this; omega
    · (first | (simp -implicitDefEqProofs (disch := omega) only [go_sem, e0, e1, e5, e6]; done) | (simp -implicitDefEqProofs (disch := omega) only [go_sem, e0, e1, e5, e6]; rfl))
    · (first | (simp -implicitDefEqProofs (disch := omega) only [go_sem, e0, e1, e5, e6]; done) | (simp -implicitDefEqProofs (disch := omega) only [go_sem, e0, e1, e5, e6]; rfl))
    · (first | (simp -implicitDefEqProofs (disch := omega) only [go_sem, e0, e1, e5, e6]; done) | (simp -implicitDefEqProofs (disch := omega) only [go_sem, e0, e1, e5, e6]; rfl))
    · (first | (simp -implicitDefEqProofs (disch := omega) only [go_sem, e0, e1, e5, e6]; done) | (simp -implicitDefEqProofs (disch := omega) only [go_sem, e0, e1, e5, e6]; rfl))
    · simp -implicitDefEqProofs (disch := omega) only [go_sem, e0, e1, e5, e6, m5, m6]; omega
theorem st_at {w : World} {a : Option Addr} {l : List Pt.St} (hr : Rd w a l.length 2 (ofL Pt.stC Pt.st0 l)) (i : Nat) (hi : i < l.length) :
    ∃ b o, a = some ⟨b, o, none⟩ ∧ b < w.heap.size ∧ cellsN w ⟨b, o + i * 2, none⟩ 2 = some #[.int .i64 (l.getD i Pt.st0).1, .int .i64 (l.getD i Pt.st0).2] ∧ w.cell? ⟨b, o + i * 2, none⟩ = some (.int .i64 (l.getD i Pt.st0).1) ∧ w.cell? ⟨b, o + i * 2 + 1, none⟩ = some (.int .i64 (l.getD i Pt.st0).2) := by
  obtain ⟨b, o, e, hb, hc, hj⟩ := hr.at_ i hi
  exact ⟨b, o, e, hb, hc, hj 0 (by omega), hj 1 (by omega)⟩
def lastS (l : List Pt.St) (i : Nat) : Pt.St := if i = 0 then (-1, 0) else l.getD (i - 1) Pt.st0
theorem oat_iff (l : List Pt.St) (size : Int) (i : Nat) : Pt.OAt l size i ↔ (lastS l i).1 < (l.getD i Pt.st0).1 ∧ (lastS l i).2 ≤ (l.getD i Pt.st0).2 ∧ (l.getD i Pt.st0).2 ≤ size := by
  unfold Pt.OAt lastS
  by_cases h : i = 0
  · simp only [if_pos h]; omega
  · simp only [if_neg h]; omega
set_option maxHeartbeats 1000000 in
theorem pts_orderly (l : List Pt.St) (a : Option Addr) (c : Nat) (size : Int) (hll : l.length ≤ 2147483648) (w : World) (hr : Rd w a l.length 2 (ofL Pt.stC Pt.st0 l)) :
    Does Try.prog 36 #[.slice a l.length c, .int .i64 size] w fun v w' => v = .bool (decide (Pt.Orderly l size)) ∧ Ext [] w w' := by
  refine does (args := [.slice a l.length c, .int .i64 size]) Try.func36 rfl (by kernel_rfl) (by kernel_rfl) rfl ent_36 (Sat.start w []) ?_; intro QV hQ
  simp -implicitDefEqProofs (disch := omega) only [go_sem]
  refine RNew_intro fun g5 hg5 => ?_
  simp -implicitDefEqProofs (disch := omega) only [go_sem]
  have hg5' : w.heap.size ≤ g5 := hg5.1
  refine RLoop_intro (fun f h => ∃ (i : Nat), i ≤ l.length ∧ (∀ j, j < i → Pt.OAt l size j) ∧ f 0 = .slice a l.length c ∧ f 1 = .int .i64 size ∧ f 5 = .pointer (some ⟨g5, 0, none⟩) ∧ f 9 = .slice a l.length c ∧ f 10 = .int .i64 (l.length : Int) ∧ f 11 = .int .i64 (i : Int) ∧
    h = [.cells g5 57 #[.int .i64 (lastS l i).1, .int .i64 (lastS l i).2], .anchor w []]) (fun f _ => (l.length - ival (f 11)).toNat) ?_ ?_
  · exact ⟨0, by omega, fun j hj => absurd hj (by omega), by (first | (simp -implicitDefEqProofs (disch := omega) only [go_sem]; done) | (simp -implicitDefEqProofs (disch := omega) only [go_sem]; rfl)), by (first | (simp -implicitDefEqProofs (disch := omega) only [go_sem]; done) | (simp -implicitDefEqProofs (disch := omega) only [go_sem]; rfl)), by (first | (simp -implicitDefEqProofs (disch := omega) only [go_sem]; done) | (simp -implicitDefEqProofs (disch := omega) only [go_sem]; rfl)), by (first | (simp -implicitDefEqProofs (disch := omega) only [go_sem]; done) | (simp -implicitDefEqProofs (disch := omega) only [go_sem]; rfl)), by (first | (simp -implicitDefEqProofs (disch := omega) only [go_sem]; done) | (simp -implicitDefEqProofs (disch := omega) only [go_sem]; rfl)), by (first | (simp -implicitDefEqProofs (disch := omega) only [go_sem]; done) | (simp -implicitDefEqProofs (disch := omega) only [go_sem]; rfl)), rfl⟩
  rintro f h ⟨i, hi, hdone, e0, e1, e5, e9, e10, e11, rfl⟩ Q' hQ'
  have hmi : ival (f 11) = (i : Int) := by rw [e11]; rfl
  by_cases hil : i < l.length
  rotate_left
  · have g1 : ¬ (i : Int) < (l.length : Int) := by omega
    obtain rfl : i = l.length := by omega
    have hO : Pt.Orderly l size ↔ 0 < l.length ∧ (l.getD 0 Pt.st0).2 = 0 := ⟨fun h => h.2, fun h => ⟨hdone, h⟩⟩
    by_cases h0 : 0 < l.length
    · have g2 : (0 : Int) < (l.length : Int) := by omega
      obtain ⟨b, o, rfl, hb, _, _, hco⟩ := st_at hr 0 h0
      rw [Nat.zero_mul, Nat.add_zero] at hco
      have hbg : b ≠ g5 := by omega
      simp -implicitDefEqProofs (disch := omega) only [go_sem, e0, e1, e5, e9, e10, e11, g1, g2, hco, decide_true]
      exact hQ _ _ fun w' hs => ⟨by rw [Value.bool.injEq, decide_eq_decide, hO]; simp [h0], hs.anchor (by simp)⟩
    · have g2 : ¬ (0 : Int) < (l.length : Int) := by omega
      simp -implicitDefEqProofs (disch := omega) only [go_sem, e0, e1, e5, e9, e10, e11, g1, g2, decide_false]
      exact hQ _ _ fun w' hs => ⟨by rw [decide_eq_false]; rw [hO]; omega, hs.anchor (by simp)⟩
  have g1 : (i : Int) < (l.length : Int) := by omega
  obtain ⟨b, o, rfl, hb, hc, _⟩ := st_at hr i hil
  have hbg : b ≠ g5 := by omega
  have hA := oat_iff l size i
  have hbad : ¬ Pt.OAt l size i → decide (Pt.Orderly l size) = false := fun h => decide_eq_false fun hx => h (hx.1 i hil)
  have hls : lastS l (i + 1) = l.getD i Pt.st0 := by unfold lastS; rw [if_neg (by omega)]; rfl
  generalize hp : l.getD i Pt.st0 = p at *
  generalize hlst : lastS l i = q at *
  obtain ⟨pb, po⟩ := p
  obtain ⟨qb, qo⟩ := q
  simp only [] at hA hc
  simp -implicitDefEqProofs (disch := omega) only [go_sem, e0, e1, e5, e9, e10, e11, g1, hc, decide_true]
  refine RNew_intro fun g hg => ?_
  have hgg : g5 ≠ g := Nat.ne_of_lt hg.1
  simp -implicitDefEqProofs (disch := omega) only [go_sem, e0, e1, e5, e9, e10, e11]
  by_cases k1 : pb ≤ qb
  · rw [hbad (fun h => by have := hA.1 h; omega)] at hQ
    simp -implicitDefEqProofs (disch := omega) only [go_sem, e0, e1, e5, e9, e10, e11, k1, decide_true]
    exact hQ _ _ fun w' hs => ⟨rfl, hs.anchor (by simp)⟩
  by_cases k2 : po < qo
  · rw [hbad (fun h => by have := hA.1 h; omega)] at hQ
    simp -implicitDefEqProofs (disch := omega) only [go_sem, e0, e1, e5, e9, e10, e11, k1, k2, decide_true]
    exact hQ _ _ fun w' hs => ⟨rfl, hs.anchor (by simp)⟩
  by_cases k3 : size < po
  · rw [hbad (fun h => by have := hA.1 h; omega)] at hQ
    simp -implicitDefEqProofs (disch := omega) only [go_sem, e0, e1, e5, e9, e10, e11, k1, k2, k3, decide_true]
    exact hQ _ _ fun w' hs => ⟨rfl, hs.anchor (by simp)⟩
  simp -implicitDefEqProofs (disch := omega) only [go_sem, e0, e1, e5, e9, e10, e11, k1, k2, k3, decide_false]
  refine hQ' _ _ _ (fun _ hs => hs.2.2.2) ⟨i + 1, by omega, fun j hj => ?_, ?_, ?_, ?_, ?_, ?_, ?_, by rw [hls]⟩ ?_
  · rcases Nat.lt_succ_iff_lt_or_eq.1 hj with h | rfl
    · exact hdone j h
    · exact hA.2 (by omega)
  · (first | (simp -implicitDefEqProofs (disch := omega) only [go_sem, e0, e1, e5, e9, e10, e11]; done) | (simp -implicitDefEqProofs (disch := omega) only [go_sem, e0, e1, e5, e9, e10, e11]; rfl))
  · (first | (simp -implicitDefEqProofs (disch := omega) only [go_sem, e0, e1, e5, e9, e10, e11]; done) | (simp -implicitDefEqProofs (disch := omega) only [go_sem, e0, e1, e5, e9, e10, e11]; rfl))
  · (first | (simp -implicitDefEqProofs (disch := omega) only [go_sem, e0, e1, e5, e9, e10, e11]; done) | (simp -implicitDefEqProofs (disch := omega) only [go_sem, e0, e1, e5, e9, e10, e11]; rfl))
  · (first | (simp -implicitDefEqProofs (disch := omega) only [go_sem, e0, e1, e5, e9, e10, e11]; done) | (simp -implicitDefEqProofs (disch := omega) only [go_sem, e0, e1, e5, e9, e10, e11]; rfl))
  · (first | (simp -implicitDefEqProofs (disch := omega) only [go_sem, e0, e1, e5, e9, e10, e11]; done) | (simp -implicitDefEqProofs (disch := omega) only [go_sem, e0, e1, e5, e9, e10, e11]; rfl))
  · (first | (simp -implicitDefEqProofs (disch := omega) only [go_sem, e0, e1, e5, e9, e10, e11]; done) | (simp -implicitDefEqProofs (disch := omega) only [go_sem, e0, e1, e5, e9, e10, e11]; rfl))
  · simp -implicitDefEqProofs (disch := omega) only [go_sem, e0, e1, e5, e9, e10, e11, hmi]; omega
end Go.Proofs.Ytjcchmlideknpaa
