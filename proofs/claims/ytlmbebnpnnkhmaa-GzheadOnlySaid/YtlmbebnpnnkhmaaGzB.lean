/- gzhead and its reference: the walks: a head's bytes. -/
import Derived.Test.YtlmbebnpnnkhmaaGzA
import Derived.Test.YtlmbebnpnnkhmaaNodeM
namespace Go.Proofs.Ytlmbebnpnnkhmaa
set_option linter.unusedSimpArgs false
set_option linter.unusedVariables false
open H
set_option maxRecDepth 20000 in
set_option maxHeartbeats 4000000 in
theorem rgz_right (h : Gz.Hd) (hh : Gz.In h) (w : World) : Does Try.prog 29 #[Gz.hdV h] w fun v w' => v = .bool (Gz.right h) ∧ Ext [] w w' := by
  obtain ⟨tm, ex, nm, nt, lv, os, tx, sm, fl⟩ := h
  obtain ⟨hf, _, _, _, hex, hnm, hnt⟩ := hh
  simp only at hf hex hnm hnt
  unfold Gz.hdV
  refine does (args := [.agg #[.int .i64 tm, str ex, str nm, str nt, .int .i64 lv, .int .i64 os, .bool tx, .bool sm, .int .i64 fl]]) Try.func29 rfl (by kernel_rfl) (by kernel_rfl) rfl ent_29 (Sat.start w []) ?_; intro QV hQ
  have hR : Gz.right ⟨tm, ex, nm, nt, lv, os, tx, sm, fl⟩ = ((Gz.okF fl && decide ((0 ≤ tm ∧ tm ≤ 4294967295) ∧ (0 ≤ lv ∧ lv ≤ 255) ∧ (0 ≤ os ∧ os ≤ 255))) && ((Gz.fits fl.toNat 4 ex && (Gz.fits fl.toNat 8 nm && Gz.fits fl.toNat 16 nt)) && (decide (ex.length ≤ 65535) && (Gz.bare nm && Gz.bare nt)))) := rfl
  rw [hR] at hQ
  simp -implicitDefEqProofs (disch := omega) only [go_sem]
  refine RNew_intro fun g hg => ?_
  simp only [below_cons, below_nil, under_anchor, and_true] at hg
  simp -implicitDefEqProofs (disch := omega) only [go_sem]
  by_cases hr : (0 ≤ tm ∧ tm ≤ 4294967295) ∧ (0 ≤ lv ∧ lv ≤ 255) ∧ (0 ≤ os ∧ os ≤ 255)
  rotate_left
  · rw [decide_eq_false hr] at hQ
    simp only [Bool.and_false, Bool.false_and] at hQ
    have hcase : tm < 0 ∨ 0 ≤ tm ∧ (4294967295 < tm ∨ tm ≤ 4294967295 ∧ (lv < 0 ∨ 0 ≤ lv ∧ (255 < lv ∨ lv ≤ 255 ∧ (os < 0 ∨ 0 ≤ os ∧ 255 < os)))) := by omega
    rcases hcase with h | ⟨a, h | ⟨b, h | ⟨c, h | ⟨d, h | ⟨e, h⟩⟩⟩⟩⟩
    · simp -implicitDefEqProofs (disch := omega) only [go_sem, decide_eq_true h]
      exact hQ _ _ fun w' hs => ⟨rfl, hs.anchor (by simp)⟩
    · simp -implicitDefEqProofs (disch := omega) only [go_sem, decide_eq_false (Int.not_lt.2 a), decide_eq_true h]
      exact hQ _ _ fun w' hs => ⟨rfl, hs.anchor (by simp)⟩
    · simp -implicitDefEqProofs (disch := omega) only [go_sem, decide_eq_false (Int.not_lt.2 a), decide_eq_false (Int.not_lt.2 b), decide_eq_true h]
      exact hQ _ _ fun w' hs => ⟨rfl, hs.anchor (by simp)⟩
    · simp -implicitDefEqProofs (disch := omega) only [go_sem, decide_eq_false (Int.not_lt.2 a), decide_eq_false (Int.not_lt.2 b), decide_eq_false (Int.not_lt.2 c), decide_eq_true h]
      exact hQ _ _ fun w' hs => ⟨rfl, hs.anchor (by simp)⟩
    · simp -implicitDefEqProofs (disch := omega) only [go_sem, decide_eq_false (Int.not_lt.2 a), decide_eq_false (Int.not_lt.2 b), decide_eq_false (Int.not_lt.2 c), decide_eq_false (Int.not_lt.2 d), decide_eq_true h]
      exact hQ _ _ fun w' hs => ⟨rfl, hs.anchor (by simp)⟩
    · simp -implicitDefEqProofs (disch := omega) only [go_sem, decide_eq_false (Int.not_lt.2 a), decide_eq_false (Int.not_lt.2 b), decide_eq_false (Int.not_lt.2 c), decide_eq_false (Int.not_lt.2 d), decide_eq_false (Int.not_lt.2 e), decide_eq_true h]
      exact hQ _ _ fun w' hs => ⟨rfl, hs.anchor (by simp)⟩
  obtain ⟨⟨a, b⟩, ⟨c, d⟩, ⟨e, e'⟩⟩ := hr
  rw [decide_eq_true ⟨⟨a, b⟩, ⟨c, d⟩, ⟨e, e'⟩⟩, Bool.and_true] at hQ
  by_cases hfr : 0 ≤ fl ∧ fl ≤ 28
  rotate_left
  · have hok : Gz.okF fl = false := by unfold Gz.okF; rw [decide_eq_false_iff_not]; omega
    rw [hok] at hQ
    rcases (show fl < 0 ∨ 0 ≤ fl ∧ 28 < fl by omega) with h | ⟨k, h⟩
    · simp -implicitDefEqProofs (disch := omega) only [go_sem, decide_eq_false (Int.not_lt.2 a), decide_eq_false (Int.not_lt.2 b), decide_eq_false (Int.not_lt.2 c), decide_eq_false (Int.not_lt.2 d), decide_eq_false (Int.not_lt.2 e), decide_eq_false (Int.not_lt.2 e'), decide_eq_true h]
      exact hQ _ _ fun w' hs => ⟨rfl, hs.anchor (by simp)⟩
    · simp -implicitDefEqProofs (disch := omega) only [go_sem, decide_eq_false (Int.not_lt.2 a), decide_eq_false (Int.not_lt.2 b), decide_eq_false (Int.not_lt.2 c), decide_eq_false (Int.not_lt.2 d), decide_eq_false (Int.not_lt.2 e), decide_eq_false (Int.not_lt.2 e'), decide_eq_false (Int.not_lt.2 k), decide_eq_true h]
      exact hQ _ _ fun w' hs => ⟨rfl, hs.anchor (by simp)⟩
  obtain ⟨F, rfl⟩ := Int.eq_ofNat_of_zero_le hfr.1
  have k1 := decide_eq_false (Int.not_lt.2 hfr.1)
  have k2 := decide_eq_false (Int.not_lt.2 hfr.2)
  obtain ⟨r, hr⟩ : ∃ r, r = F % 4 := ⟨_, rfl⟩
  have hrem : (F : Int).tmod 4 = (r : Int) := by rw [Int.tmod_eq_emod_of_nonneg (by omega), hr]; omega
  by_cases hr0 : r = 0
  rotate_left
  · have hok : Gz.okF (F : Int) = false := by unfold Gz.okF; rw [decide_eq_false_iff_not]; omega
    rw [hok] at hQ
    have k3 : decide ((r : Int) = 0) = false := decide_eq_false (by omega)
    simp -implicitDefEqProofs (disch := omega) only [go_sem, decide_eq_false (Int.not_lt.2 a), decide_eq_false (Int.not_lt.2 b), decide_eq_false (Int.not_lt.2 c), decide_eq_false (Int.not_lt.2 d), decide_eq_false (Int.not_lt.2 e), decide_eq_false (Int.not_lt.2 e'), k1, k2, hrem, k3]
    exact hQ _ _ fun w' hs => ⟨rfl, hs.anchor (by simp)⟩
  have hok : Gz.okF (F : Int) = true := by unfold Gz.okF; rw [decide_eq_true_eq]; omega
  have k3 : decide ((r : Int) = 0) = true := decide_eq_true (by omega)
  rw [hok, Int.toNat_natCast, Bool.true_and] at hQ
  simp -implicitDefEqProofs (disch := omega) only [go_sem, decide_eq_false (Int.not_lt.2 a), decide_eq_false (Int.not_lt.2 b), decide_eq_false (Int.not_lt.2 c), decide_eq_false (Int.not_lt.2 d), decide_eq_false (Int.not_lt.2 e), decide_eq_false (Int.not_lt.2 e'), k1, k2, hrem, k3]
  by_cases h4 : ex.length ≤ 65535
  rotate_left
  · have h4' : decide ((65535 : Int) < (ex.length : Int)) = true := decide_eq_true (by omega)
    simp -implicitDefEqProofs (disch := omega) only [go_sem, h4']
    exact hQ _ _ fun w' hs => ⟨by rw [decide_eq_false h4]; simp, hs.anchor (by simp)⟩
  have h4' : decide ((65535 : Int) < (ex.length : Int)) = false := decide_eq_false (by omega)
  rw [decide_eq_true h4, Bool.true_and] at hQ
  simp -implicitDefEqProofs (disch := omega) only [go_sem, h4']
  refine RCall_eq (rgz_has F 4 (by omega) (by omega)) ?_

  by_cases hno : Gz.fits F 4 ex = true
  rotate_left
  · have hno' : Gz.fits F 4 ex = false := by simpa using hno
    unfold Gz.fits at hno'
    rw [Bool.or_eq_false_iff] at hno'
    simp -implicitDefEqProofs (disch := omega) only [go_sem, hno'.1, hno'.2]
    exact hQ _ _ fun w' hs => ⟨by rw [Bool.eq_false_iff.2 hno]; rfl, hs.anchor (by simp)⟩
  rw [hno, Bool.true_and] at hQ
  have hno2 : Gz.has F 4 = true ∨ (Gz.has F 4 = false ∧ decide (ex = []) = true) := by
    unfold Gz.fits at hno
    cases hx : Gz.has F 4
    · rw [hx, Bool.false_or] at hno; exact .inr ⟨rfl, hno⟩
    · exact .inl rfl
  have hgo : ∃ b4 bx, Gz.has F 4 = b4 ∧ decide (ex = []) = bx ∧ (b4 = true ∨ bx = true) := ⟨_, _, rfl, rfl, by rcases hno2 with h | ⟨_, h⟩ <;> simp [h]⟩
  obtain ⟨b4, bx, hx, hx2, hb4⟩ := hgo
  rw [hx]
  rcases hno2 with hy | ⟨hy, hy2⟩
  · have hb : b4 = true := by rw [← hx, hy]
    subst hb
    simp -implicitDefEqProofs (disch := omega) only [go_sem]
    refine RCall_eq (rgz_bare nm (by omega)) ?_
    cases hbn : Gz.bare nm with
    | false => simp -implicitDefEqProofs (disch := omega) only [go_sem]; exact hQ _ _ fun w' hs => ⟨by rw [hbn]; simp, hs.anchor (by simp)⟩
    | true =>
      simp -implicitDefEqProofs (disch := omega) only [go_sem]
      refine RCall_eq (rgz_bare nt (by omega)) ?_
      cases hbt : Gz.bare nt with
      | false => simp -implicitDefEqProofs (disch := omega) only [go_sem]; exact hQ _ _ fun w' hs => ⟨by rw [hbn, hbt]; simp, hs.anchor (by simp)⟩
      | true =>
        simp -implicitDefEqProofs (disch := omega) only [go_sem]
        refine RCall_eq (rgz_has F 8 (by omega) (by omega)) ?_
        have hf8 : Gz.fits F 8 nm = (Gz.has F 8 || decide (nm = [])) := rfl
        have hf16 : Gz.fits F 16 nt = (Gz.has F 16 || decide (nt = [])) := rfl
        rw [hbn, hbt, hf8, hf16] at hQ
        cases h8 : Gz.has F 8 with
        | true =>
          have h8x : True := trivial
          simp -implicitDefEqProofs (disch := omega) only [go_sem]
          refine RCall_eq (rgz_has F 16 (by omega) (by omega)) ?_
          cases h16 : Gz.has F 16 with
          | true => simp -implicitDefEqProofs (disch := omega) only [go_sem]; exact hQ _ _ fun w' hs => ⟨by simp [h8, h8x, h16], hs.anchor (by simp)⟩
          | false =>
            simp -implicitDefEqProofs (disch := omega) only [go_sem]
            exact hQ _ _ fun w' hs => ⟨by simp [h8, h8x, h16], hs.anchor (by simp)⟩
        | false =>
          cases h8x : decide (nm = []) with
          | false =>
            simp -implicitDefEqProofs (disch := omega) only [go_sem, h8x]
            exact hQ _ _ fun w' hs => ⟨by rw [h8, h8x]; simp, hs.anchor (by simp)⟩
          | true =>
            simp -implicitDefEqProofs (disch := omega) only [go_sem, h8x]
            refine RCall_eq (rgz_has F 16 (by omega) (by omega)) ?_
            cases h16 : Gz.has F 16 with
            | true => simp -implicitDefEqProofs (disch := omega) only [go_sem]; exact hQ _ _ fun w' hs => ⟨by simp [h8, h8x, h16], hs.anchor (by simp)⟩
            | false =>
              simp -implicitDefEqProofs (disch := omega) only [go_sem]
              exact hQ _ _ fun w' hs => ⟨by simp [h8, h8x, h16], hs.anchor (by simp)⟩
  · have hb : b4 = false := by rw [← hx, hy]
    have hc : bx = true := by rw [← hx2, hy2]
    subst hb hc
    simp -implicitDefEqProofs (disch := omega) only [go_sem, hx2]
    refine RCall_eq (rgz_bare nm (by omega)) ?_
    cases hbn : Gz.bare nm with
    | false => simp -implicitDefEqProofs (disch := omega) only [go_sem]; exact hQ _ _ fun w' hs => ⟨by rw [hbn]; simp, hs.anchor (by simp)⟩
    | true =>
      simp -implicitDefEqProofs (disch := omega) only [go_sem]
      refine RCall_eq (rgz_bare nt (by omega)) ?_
      cases hbt : Gz.bare nt with
      | false => simp -implicitDefEqProofs (disch := omega) only [go_sem]; exact hQ _ _ fun w' hs => ⟨by rw [hbn, hbt]; simp, hs.anchor (by simp)⟩
      | true =>
        simp -implicitDefEqProofs (disch := omega) only [go_sem]
        refine RCall_eq (rgz_has F 8 (by omega) (by omega)) ?_
        have hf8 : Gz.fits F 8 nm = (Gz.has F 8 || decide (nm = [])) := rfl
        have hf16 : Gz.fits F 16 nt = (Gz.has F 16 || decide (nt = [])) := rfl
        rw [hbn, hbt, hf8, hf16] at hQ
        cases h8 : Gz.has F 8 with
        | true =>
          have h8x : True := trivial
          simp -implicitDefEqProofs (disch := omega) only [go_sem]
          refine RCall_eq (rgz_has F 16 (by omega) (by omega)) ?_
          cases h16 : Gz.has F 16 with
          | true => simp -implicitDefEqProofs (disch := omega) only [go_sem]; exact hQ _ _ fun w' hs => ⟨by simp [h8, h8x, h16], hs.anchor (by simp)⟩
          | false =>
            simp -implicitDefEqProofs (disch := omega) only [go_sem]
            exact hQ _ _ fun w' hs => ⟨by simp [h8, h8x, h16], hs.anchor (by simp)⟩
        | false =>
          cases h8x : decide (nm = []) with
          | false =>
            simp -implicitDefEqProofs (disch := omega) only [go_sem, h8x]
            exact hQ _ _ fun w' hs => ⟨by rw [h8, h8x]; simp, hs.anchor (by simp)⟩
          | true =>
            simp -implicitDefEqProofs (disch := omega) only [go_sem, h8x]
            refine RCall_eq (rgz_has F 16 (by omega) (by omega)) ?_
            cases h16 : Gz.has F 16 with
            | true => simp -implicitDefEqProofs (disch := omega) only [go_sem]; exact hQ _ _ fun w' hs => ⟨by simp [h8, h8x, h16], hs.anchor (by simp)⟩
            | false =>
              simp -implicitDefEqProofs (disch := omega) only [go_sem]
              exact hQ _ _ fun w' hs => ⟨by simp [h8, h8x, h16], hs.anchor (by simp)⟩
end Go.Proofs.Ytlmbebnpnnkhmaa
