/- gzhead's reference: the walk: a head read. -/
import Derived.Test.YtlmbebnpnnkhmaaGzG
namespace Go.Proofs.Ytlmbebnpnnkhmaa
set_option linter.unusedSimpArgs false
set_option linter.unusedVariables false
open H
theorem ref_num_at (s : List UInt8) (hsl : s.length ≤ 4611686018427387904) (p wd : Nat) (hw : wd = 1 ∨ wd = 2 ∨ wd = 4) (hle : p + wd ≤ s.length) (w : World) :
    Does Try.prog 51 #[str s, .int .i64 (p : Int), .int .i64 (wd : Int)] w fun v w' => v = .tuple #[.int .i64 (Vint.numS s p wd : Int), .int .i64 0] ∧ Ext [] w w' := by
  have h := ref_number s (by omega) (p : Int) (wd : Int) (by omega) w
  rw [number_can s p wd hw (by omega), if_pos hle] at h
  exact h
theorem ref_num_no (s : List UInt8) (hsl : s.length ≤ 4611686018427387904) (p wd : Nat) (hw : wd = 1 ∨ wd = 2 ∨ wd = 4) (hp : p ≤ s.length) (hle : s.length < p + wd) (w : World) :
    Does Try.prog 51 #[str s, .int .i64 (p : Int), .int .i64 (wd : Int)] w fun v w' => v = .tuple #[.int .i64 0, .int .i64 2] ∧ Ext [] w w' := by
  have h := ref_number s (by omega) (p : Int) (wd : Int) (by omega) w
  rw [number_can s p wd hw hp, if_neg (by omega)] at h
  exact h
theorem Gz.endV_some (z : List UInt8) (q : Nat) : Gz.endV (some (z, q)) = .tuple #[str z, .int .i64 (q : Int)] := rfl
theorem Gz.endV_none : Gz.endV none = .tuple #[str [], .int .i64 (-1)] := rfl
theorem len2 (s : List UInt8) (q : Nat) : (s.length : Int) - (q : Int) - 2 = (s.length : Int) - ((q + 2 : Nat) : Int) := by omega
set_option maxRecDepth 20000 in
set_option maxHeartbeats 8000000 in
theorem rgz_parse (s : List UInt8) (hsl : s.length ≤ 4611686018427387904) (a : Int) (ha : -9223372036854775808 ≤ a ∧ a ≤ 9223372036854775807) (w : World) :
    Does Try.prog 31 #[str s, .int .i64 a] w fun v w' => v = Gz.parV (Gz.parse s a) ∧ Ext [] w w' := by
  refine does (args := [str s, .int .i64 a]) Try.func31 rfl (by kernel_rfl) (by kernel_rfl) rfl ent_31 (Sat.start w []) ?_; intro QV hQ
  have hP : Gz.parse s a = if a < 0 then (Gz.h0, 0, 1) else if (s.length : Int) < a ∨ (s.length : Int) - a < 10 then (Gz.h0, 0, 2) else Gz.parseN s a.toNat := rfl
  rw [hP] at hQ
  simp -implicitDefEqProofs (disch := omega) only [go_sem]
  refine RNew_intro fun g hg => ?_
  simp only [below_cons, below_nil, under_anchor, and_true] at hg
  by_cases h1 : a < 0
  · rw [if_pos h1, Gz.parV_err] at hQ
    simp -implicitDefEqProofs (disch := omega) only [go_sem, decide_eq_true h1]
    exact hQ _ _ fun w' hs => ⟨rfl, hs.anchor (by simp)⟩
  rw [if_neg h1] at hQ
  have k1 := decide_eq_false h1
  obtain ⟨p, rfl⟩ := Int.eq_ofNat_of_zero_le (show 0 ≤ a by omega)
  by_cases h2 : (s.length : Int) < (p : Int) ∨ (s.length : Int) - (p : Int) < 10
  · rw [if_pos h2, Gz.parV_err] at hQ
    by_cases h3 : (s.length : Int) < (p : Int)
    · simp -implicitDefEqProofs (disch := omega) only [go_sem, k1, decide_eq_true h3]
      exact hQ _ _ fun w' hs => ⟨rfl, hs.anchor (by simp)⟩
    · simp -implicitDefEqProofs (disch := omega) only [go_sem, k1, decide_eq_false h3, decide_eq_true (h2.resolve_left h3)]
      exact hQ _ _ fun w' hs => ⟨rfl, hs.anchor (by simp)⟩
  rw [if_neg h2, Int.toNat_natCast] at hQ
  have k2 : decide ((s.length : Int) < (p : Int)) = false := decide_eq_false (by omega)
  have k3 : decide ((s.length : Int) - (p : Int) < 10) = false := decide_eq_false (by omega)
  have hp10 : p + 10 ≤ s.length := by omega
  unfold Gz.parseN at hQ
  obtain ⟨p3, hp3⟩ : ∃ k : Nat, k = p + 3 := ⟨_, rfl⟩
  have e3 : (p : Int) + 3 = (p3 : Int) := by omega
  have esl : p3 - p = 3 := by omega
  simp -implicitDefEqProofs (disch := omega) only [go_sem, k1, k2, k3, e3, esl]
  by_cases hm : (s.drop p).take 3 = [31, 139, 8]
  rotate_left
  · rw [if_pos hm, Gz.parV_err] at hQ
    simp -implicitDefEqProofs (disch := omega) only [go_sem, decide_eq_false hm]
    exact hQ _ _ fun w' hs => ⟨rfl, hs.anchor (by simp)⟩
  rw [if_neg (by simpa using hm)] at hQ
  simp -implicitDefEqProofs (disch := omega) only [go_sem, decide_eq_true hm, e3]
  have hF0 : s.getD p3 0 = s.getD (p + 3) 0 := by rw [hp3]
  rw [hF0]
  have hFb : (s.getD (p + 3) 0).toNat < 256 := UInt8.toNat_lt _
  generalize (s.getD (p + 3) 0).toNat = F at *
  by_cases hF : F < 32
  rotate_left
  · rw [if_pos (by omega), Gz.parV_err] at hQ
    have kF : decide ((32 : Int) ≤ (F : Int)) = true := decide_eq_true (by omega)
    simp -implicitDefEqProofs (disch := omega) only [go_sem, kF]
    exact hQ _ _ fun w' hs => ⟨rfl, hs.anchor (by simp)⟩
  rw [if_neg (by omega)] at hQ
  have kF : decide ((32 : Int) ≤ (F : Int)) = false := decide_eq_false (by omega)
  obtain ⟨p4, hp4⟩ : ∃ k : Nat, k = p + 4 := ⟨_, rfl⟩
  have e4 : (p : Int) + 4 = (p4 : Int) := by omega
  simp -implicitDefEqProofs (disch := omega) only [go_sem, kF, e4]
  refine RCall_eq (ref_num_at s hsl p4 4 (by omega) (by omega)) ?_
  rw [hp4]
  obtain ⟨p8, hp8⟩ : ∃ k : Nat, k = p + 8 := ⟨_, rfl⟩
  have e8 : (p : Int) + 8 = (p8 : Int) := by omega
  obtain ⟨p9, hp9⟩ : ∃ k : Nat, k = p + 9 := ⟨_, rfl⟩
  have e9 : (p : Int) + 9 = (p9 : Int) := by omega
  obtain ⟨F4, hF4⟩ : ∃ k : Nat, k = F / 4 := ⟨_, rfl⟩
  have eq4 : (F : Int).tdiv 4 = (F4 : Int) := by rw [Int.tdiv_eq_ediv_of_nonneg (by omega), hF4]; rfl
  simp -implicitDefEqProofs (disch := omega) only [go_sem]
  refine RDraw_seg (by kernel_rfl) (by kernel_rfl) 21 rfl ?_
  refine RS_cutR [0, 1, 2, 3, 4, 5, 6, 7, 8, 9, 10, 11, 13, 15, 16, 17] [12, 14, 18, 19, 20] (by decide +kernel) ?_
  refine RS_det (by kernel_rfl) ?_
  repeat (first | refine ToO_step (fun Q hq => by (simp -implicitDefEqProofs (disch := omega) only [go_sem, e8, e9, eq4]; exact hq)) ?_ | refine ToO_guard (by (simp -implicitDefEqProofs only [go_sem, e8, e9, eq4]; first | done | fail)) (fun Q hq => by (simp -implicitDefEqProofs (disch := omega) only [go_sem, e8, e9, eq4]; exact hq)) ?_ | refine ToO_skip (.inl (by (simp -implicitDefEqProofs only [go_sem, e8, e9, eq4]; first | done | fail))) ?_ | refine ToO_skip (.inr (by (simp -implicitDefEqProofs only [go_sem, e8, e9, eq4]; first | done | fail))) ?_)
  refine ToO_nil ?_
  refine RS_via [20] (fun f h => ∃ g2, below g2 [.cells g 49 #[.int .i64 0, str [], str [], str [], .int .i64 0, .int .i64 0, .bool false, .bool false, .int .i64 0], .anchor w []] ∧ f 0 = str s ∧ f 1 = .int .i64 (p : Int) ∧ f 4 = .pointer (some ⟨g, 0, none⟩) ∧ f 7 = .int .i64 (F : Int) ∧ f 10 = .pointer (some ⟨g2, 0, none⟩) ∧
    f 75 = .agg #[.int .i64 (Vint.numS s (p + 4) 4 : Int), str [], str [], str [], .int .i64 ((s.getD p8 0).toNat : Int), .int .i64 ((s.getD p9 0).toNat : Int), .bool (Gz.has F 1), .bool (Gz.has F 2), .int .i64 ((F4 : Int) * 4)] ∧ h = [.cells g2 49 #[.int .i64 0, str [], str [], str [], .int .i64 0, .int .i64 0, .bool false, .bool false, .int .i64 0], .cells g 49 #[.int .i64 0, str [], str [], str [], .int .i64 0, .int .i64 0, .bool false, .bool false, .int .i64 0], .anchor w []]) (fun K' hI => ?_) ?_
  · refine RS_first [12, 19] (by kernel_rfl) ⟨?_, ?_, trivial⟩
    · simp -implicitDefEqProofs (disch := omega) only [go_sem]
      refine RCall_eq (rgz_has F 1 (by omega) (by omega)) ?_
      simp -implicitDefEqProofs (disch := omega) only [go_sem]
      refine RS_first (L := [14, 18, 19, 20]) [14, 19] (by kernel_rfl) ⟨?_, ?_, trivial⟩
      · simp -implicitDefEqProofs (disch := omega) only [go_sem]
        refine RCall_eq (rgz_has F 2 (by omega) (by omega)) ?_
        simp -implicitDefEqProofs (disch := omega) only [go_sem]
        refine RS_cutR (L := [18, 19, 20]) [18] [19, 20] (by decide +kernel) ?_
        refine RS_det (by kernel_rfl) ?_
        repeat (first | refine ToO_step (fun Q hq => by (simp -implicitDefEqProofs (disch := omega) only [go_sem]; exact hq)) ?_ | refine ToO_guard (by (simp -implicitDefEqProofs only [go_sem]; first | done | fail)) (fun Q hq => by (simp -implicitDefEqProofs (disch := omega) only [go_sem]; exact hq)) ?_ | refine ToO_skip (.inl (by (simp -implicitDefEqProofs only [go_sem]; first | done | fail))) ?_ | refine ToO_skip (.inr (by (simp -implicitDefEqProofs only [go_sem]; first | done | fail))) ?_)
        refine ToO_nil ?_
        refine RS_first [19] (by kernel_rfl) ⟨?_, trivial⟩
        simp -implicitDefEqProofs (disch := omega) only [go_sem]
        refine RNew_intro fun g2 hg2 => ?_
        simp -implicitDefEqProofs (disch := omega) only [go_sem]
        exact hI _ _ ⟨g2, hg2, by (first | (simp -implicitDefEqProofs (disch := omega) only [go_sem]; done) | (simp -implicitDefEqProofs (disch := omega) only [go_sem]; rfl)), by (first | (simp -implicitDefEqProofs (disch := omega) only [go_sem]; done) | (simp -implicitDefEqProofs (disch := omega) only [go_sem]; rfl)), by (first | (simp -implicitDefEqProofs (disch := omega) only [go_sem]; done) | (simp -implicitDefEqProofs (disch := omega) only [go_sem]; rfl)), by (first | (simp -implicitDefEqProofs (disch := omega) only [go_sem]; done) | (simp -implicitDefEqProofs (disch := omega) only [go_sem]; rfl)), by (first | (simp -implicitDefEqProofs (disch := omega) only [go_sem]; done) | (simp -implicitDefEqProofs (disch := omega) only [go_sem]; rfl)), by (first | (simp -implicitDefEqProofs (disch := omega) only [go_sem]; done) | (simp -implicitDefEqProofs (disch := omega) only [go_sem]; rfl)), rfl⟩
      · simp -implicitDefEqProofs (disch := omega) only [go_sem]
        refine RNew_intro fun g2 hg2 => ?_
        simp -implicitDefEqProofs (disch := omega) only [go_sem]
        refine RS_first (L := [14, 18, 20]) [14] (by kernel_rfl) ⟨?_, trivial⟩
        simp -implicitDefEqProofs (disch := omega) only [go_sem]
        refine RCall_eq (rgz_has F 2 (by omega) (by omega)) ?_
        simp -implicitDefEqProofs (disch := omega) only [go_sem]
        refine RS_first (L := [18, 20]) [18] (by kernel_rfl) ⟨?_, trivial⟩
        simp -implicitDefEqProofs (disch := omega) only [go_sem]
        exact hI _ _ ⟨g2, hg2, by (first | (simp -implicitDefEqProofs (disch := omega) only [go_sem]; done) | (simp -implicitDefEqProofs (disch := omega) only [go_sem]; rfl)), by (first | (simp -implicitDefEqProofs (disch := omega) only [go_sem]; done) | (simp -implicitDefEqProofs (disch := omega) only [go_sem]; rfl)), by (first | (simp -implicitDefEqProofs (disch := omega) only [go_sem]; done) | (simp -implicitDefEqProofs (disch := omega) only [go_sem]; rfl)), by (first | (simp -implicitDefEqProofs (disch := omega) only [go_sem]; done) | (simp -implicitDefEqProofs (disch := omega) only [go_sem]; rfl)), by (first | (simp -implicitDefEqProofs (disch := omega) only [go_sem]; done) | (simp -implicitDefEqProofs (disch := omega) only [go_sem]; rfl)), by (first | (simp -implicitDefEqProofs (disch := omega) only [go_sem]; done) | (simp -implicitDefEqProofs (disch := omega) only [go_sem]; rfl)), rfl⟩
    · simp -implicitDefEqProofs (disch := omega) only [go_sem]
      refine RNew_intro fun g2 hg2 => ?_
      simp -implicitDefEqProofs (disch := omega) only [go_sem]
      refine RS_first (L := [12, 14, 18, 20]) [12] (by kernel_rfl) ⟨?_, trivial⟩
      simp -implicitDefEqProofs (disch := omega) only [go_sem]
      refine RCall_eq (rgz_has F 1 (by omega) (by omega)) ?_
      simp -implicitDefEqProofs (disch := omega) only [go_sem]
      refine RS_first (L := [14, 18, 20]) [14] (by kernel_rfl) ⟨?_, trivial⟩
      simp -implicitDefEqProofs (disch := omega) only [go_sem]
      refine RCall_eq (rgz_has F 2 (by omega) (by omega)) ?_
      simp -implicitDefEqProofs (disch := omega) only [go_sem]
      refine RS_first (L := [18, 20]) [18] (by kernel_rfl) ⟨?_, trivial⟩
      simp -implicitDefEqProofs (disch := omega) only [go_sem]
      exact hI _ _ ⟨g2, hg2, by (first | (simp -implicitDefEqProofs (disch := omega) only [go_sem]; done) | (simp -implicitDefEqProofs (disch := omega) only [go_sem]; rfl)), by (first | (simp -implicitDefEqProofs (disch := omega) only [go_sem]; done) | (simp -implicitDefEqProofs (disch := omega) only [go_sem]; rfl)), by (first | (simp -implicitDefEqProofs (disch := omega) only [go_sem]; done) | (simp -implicitDefEqProofs (disch := omega) only [go_sem]; rfl)), by (first | (simp -implicitDefEqProofs (disch := omega) only [go_sem]; done) | (simp -implicitDefEqProofs (disch := omega) only [go_sem]; rfl)), by (first | (simp -implicitDefEqProofs (disch := omega) only [go_sem]; done) | (simp -implicitDefEqProofs (disch := omega) only [go_sem]; rfl)), by (first | (simp -implicitDefEqProofs (disch := omega) only [go_sem]; done) | (simp -implicitDefEqProofs (disch := omega) only [go_sem]; rfl)), rfl⟩
  rintro f h ⟨g2, hg2, e0, e1, e4', e7, e10, e75, rfl⟩
  simp only [below_cons, below_nil, under_anchor, under_cells, and_true] at hg2
  have ng : g2 ≠ g := by omega
  have ng' : g ≠ g2 := by omega
  rw [hp8, hp9] at e75
  rw [show (F4 : Int) * 4 = ((F / 4 * 4 : Nat) : Int) by omega] at e75
  refine RS_text (by kernel_rfl) ?_
  obtain ⟨p10, hp10'⟩ : ∃ k : Nat, k = p + 10 := ⟨_, rfl⟩
  have e10' : (p : Int) + 10 = (p10 : Int) := by omega
  have hF2 : Gz.fin s p F = match Gz.opt F 4 Gz.takeX s p10 with
    | none => (Gz.h0, 0, 2)
    | some (e, q) => match Gz.opt F 8 Gz.takeZ s q with
      | none => (Gz.h0, 0, 2)
      | some (n, q2) => match Gz.opt F 16 Gz.takeZ s q2 with
        | none => (Gz.h0, 0, 2)
        | some (t, q3) => (if Gz.has F 2 then (if q3 + 2 ≤ s.length then (if Vint.numS s q3 2 = Gz.sumOf ((s.drop p).take (q3 - p)) then (Gz.hdOf s p F e n t, ((q3 + 2 : Nat) : Int), 0) else (Gz.h0, 0, 5)) else (Gz.h0, 0, 2)) else (Gz.hdOf s p F e n t, (q3 : Int), 0)) := by
    unfold Gz.fin Gz.flds
    rw [hp10']
    cases Gz.opt F 4 Gz.takeX s (p + 10) with
    | none => rfl
    | some x =>
      obtain ⟨e, q⟩ := x
      simp only
      cases Gz.opt F 8 Gz.takeZ s q with
      | none => rfl
      | some y =>
        obtain ⟨n, q2⟩ := y
        simp only
        cases Gz.opt F 16 Gz.takeZ s q2 with
        | none => rfl
        | some z => rfl
  rw [hF2] at hQ
  simp -implicitDefEqProofs (disch := omega) only [go_sem, e0, e1, e4', e7, e10, e75, e10']
  refine RCall_eq (rgz_has F 4 (by omega) (by omega)) ?_
  simp -implicitDefEqProofs (disch := omega) only [go_sem, e0, e1, e4', e7, e10, e75]
  refine RC_join (fun f h => ∃ e q, Gz.opt F 4 Gz.takeX s p10 = some (e, q) ∧ p10 ≤ q ∧ q ≤ s.length ∧ f 0 = str s ∧ f 1 = .int .i64 (p : Int) ∧ f 4 = .pointer (some ⟨g, 0, none⟩) ∧ f 7 = .int .i64 (F : Int) ∧ f 10 = .pointer (some ⟨g2, 0, none⟩) ∧ f 11 = .int .i64 (q : Int) ∧
    h = [.cells g2 49 #[.int .i64 (Vint.numS s (p + 4) 4 : Int), str e, str [], str [], .int .i64 ((s.getD (p + 8) 0).toNat : Int), .int .i64 ((s.getD (p + 9) 0).toNat : Int), .bool (Gz.has F 1), .bool (Gz.has F 2), .int .i64 ((F / 4 * 4 : Nat) : Int)], .cells g 49 #[.int .i64 0, str [], str [], str [], .int .i64 0, .int .i64 0, .bool false, .bool false, .int .i64 0], .anchor w []]) (fun J hJ hc => ?_) (fun J hJ hc => ?_) ?_
  · rw [opt_yes hc] at hQ
    simp -implicitDefEqProofs (disch := omega) only [go_sem, e0, e1, e4', e7, e10, e75]
    by_cases hq2 : p10 + 2 ≤ s.length
    rotate_left
    · have hx : Gz.takeX s p10 = none := by unfold Gz.takeX; rw [if_neg (by omega)]
      rw [hx] at hQ
      simp only [Gz.parV_err] at hQ
      refine RCall_eq (ref_num_no s hsl p10 2 (by omega) (by omega) (by omega)) ?_
      simp -implicitDefEqProofs (disch := omega) only [go_sem, e0, e1, e4', e7, e10, e75]
      exact hQ _ _ fun w' hs => ⟨rfl, hs.anchor (by simp)⟩
    refine RCall_eq (ref_num_at s hsl p10 2 (by omega) hq2) ?_
    have hx : Gz.takeX s p10 = if p10 + 2 + Vint.numS s p10 2 ≤ s.length then some ((s.drop (p10 + 2)).take (Vint.numS s p10 2), p10 + 2 + Vint.numS s p10 2) else none := rfl
    have hn := Vint.numS_lt s p10 2
    generalize Vint.numS s p10 2 = n at *
    by_cases h : p10 + 2 + n ≤ s.length
    · rw [if_pos h] at hx
      have h1 : decide ((s.length : Int) - (p10 : Int) - 2 < (n : Int)) = false := decide_eq_false (by omega)
      obtain ⟨u, hu⟩ : ∃ k : Nat, k = p10 + 2 := ⟨_, rfl⟩
      have eu : (p10 : Int) + 2 = (u : Int) := by omega
      obtain ⟨v, hv⟩ : ∃ k : Nat, k = u + n := ⟨_, rfl⟩
      have ev : (u : Int) + (n : Int) = (v : Int) := by omega
      have evu : v - u = n := by omega
      simp -implicitDefEqProofs (disch := omega) only [go_sem, e0, e1, e4', e7, e10, e75, h1, eu, ev, evu]
      exact hJ _ _ ⟨_, v, by rw [opt_yes hc, hx, hv, hu], by omega, by omega, by (first | (simp -implicitDefEqProofs (disch := omega) only [go_sem, e0, e1, e4', e7, e10, e75]; done) | (simp -implicitDefEqProofs (disch := omega) only [go_sem, e0, e1, e4', e7, e10, e75]; rfl)), by (first | (simp -implicitDefEqProofs (disch := omega) only [go_sem, e0, e1, e4', e7, e10, e75]; done) | (simp -implicitDefEqProofs (disch := omega) only [go_sem, e0, e1, e4', e7, e10, e75]; rfl)), by (first | (simp -implicitDefEqProofs (disch := omega) only [go_sem, e0, e1, e4', e7, e10, e75]; done) | (simp -implicitDefEqProofs (disch := omega) only [go_sem, e0, e1, e4', e7, e10, e75]; rfl)), by (first | (simp -implicitDefEqProofs (disch := omega) only [go_sem, e0, e1, e4', e7, e10, e75]; done) | (simp -implicitDefEqProofs (disch := omega) only [go_sem, e0, e1, e4', e7, e10, e75]; rfl)), by (first | (simp -implicitDefEqProofs (disch := omega) only [go_sem, e0, e1, e4', e7, e10, e75]; done) | (simp -implicitDefEqProofs (disch := omega) only [go_sem, e0, e1, e4', e7, e10, e75]; rfl)), by (first | (simp -implicitDefEqProofs (disch := omega) only [go_sem]; done) | (simp -implicitDefEqProofs (disch := omega) only [go_sem]; rfl)), by rw [hu]⟩
    · rw [if_neg h] at hx
      rw [hx] at hQ
      simp only [Gz.parV_err] at hQ
      have h1 : decide ((s.length : Int) - (p10 : Int) - 2 < (n : Int)) = true := decide_eq_true (by omega)
      simp -implicitDefEqProofs (disch := omega) only [go_sem, e0, e1, e4', e7, e10, e75, h1]
      exact hQ _ _ fun w' hs => ⟨rfl, hs.anchor (by simp)⟩
  · rw [opt_no hc] at hQ
    simp -implicitDefEqProofs (disch := omega) only [go_sem, e0, e1, e4', e7, e10, e75]
    exact hJ _ _ ⟨[], p10, opt_no hc _ _, by omega, by omega, by (first | (simp -implicitDefEqProofs (disch := omega) only [go_sem, e0, e1, e4', e7, e10, e75]; done) | (simp -implicitDefEqProofs (disch := omega) only [go_sem, e0, e1, e4', e7, e10, e75]; rfl)), by (first | (simp -implicitDefEqProofs (disch := omega) only [go_sem, e0, e1, e4', e7, e10, e75]; done) | (simp -implicitDefEqProofs (disch := omega) only [go_sem, e0, e1, e4', e7, e10, e75]; rfl)), by (first | (simp -implicitDefEqProofs (disch := omega) only [go_sem, e0, e1, e4', e7, e10, e75]; done) | (simp -implicitDefEqProofs (disch := omega) only [go_sem, e0, e1, e4', e7, e10, e75]; rfl)), by (first | (simp -implicitDefEqProofs (disch := omega) only [go_sem, e0, e1, e4', e7, e10, e75]; done) | (simp -implicitDefEqProofs (disch := omega) only [go_sem, e0, e1, e4', e7, e10, e75]; rfl)), by (first | (simp -implicitDefEqProofs (disch := omega) only [go_sem, e0, e1, e4', e7, e10, e75]; done) | (simp -implicitDefEqProofs (disch := omega) only [go_sem, e0, e1, e4', e7, e10, e75]; rfl)), by (first | (simp -implicitDefEqProofs (disch := omega) only [go_sem]; done) | (simp -implicitDefEqProofs (disch := omega) only [go_sem]; rfl)), rfl⟩
  rintro f h ⟨e, q, ho, hpq, hqs, e0, e1, e4', e7, e10, e11, rfl⟩
  rw [ho] at hQ
  simp only at hQ
  simp -implicitDefEqProofs (disch := omega) only [go_sem, e0, e1, e4', e7, e10, e11]
  refine RCall_eq (rgz_has F 8 (by omega) (by omega)) ?_
  simp -implicitDefEqProofs (disch := omega) only [go_sem, e0, e1, e4', e7, e10, e11]
  refine RC_join (fun f h => ∃ n q2, Gz.opt F 8 Gz.takeZ s q = some (n, q2) ∧ q ≤ q2 ∧ q2 ≤ s.length ∧ f 0 = str s ∧ f 1 = .int .i64 (p : Int) ∧ f 4 = .pointer (some ⟨g, 0, none⟩) ∧ f 7 = .int .i64 (F : Int) ∧ f 10 = .pointer (some ⟨g2, 0, none⟩) ∧ f 11 = .int .i64 (q2 : Int) ∧
    h = [.cells g2 49 #[.int .i64 (Vint.numS s (p + 4) 4 : Int), str e, str n, str [], .int .i64 ((s.getD (p + 8) 0).toNat : Int), .int .i64 ((s.getD (p + 9) 0).toNat : Int), .bool (Gz.has F 1), .bool (Gz.has F 2), .int .i64 ((F / 4 * 4 : Nat) : Int)], .cells g 49 #[.int .i64 0, str [], str [], str [], .int .i64 0, .int .i64 0, .bool false, .bool false, .int .i64 0], .anchor w []]) (fun J hJ hc => ?_) (fun J hJ hc => ?_) ?_
  · rw [opt_yes hc] at hQ
    simp -implicitDefEqProofs (disch := omega) only [go_sem, e0, e1, e4', e7, e10, e11]
    refine RCall_eq (rgz_ended s hsl q (by omega)) ?_
    cases hx : Gz.takeZ s q with
    | none =>
      rw [hx] at hQ
      simp only [Gz.parV_err] at hQ
      rw [Gz.endV_none]
      simp -implicitDefEqProofs (disch := omega) only [go_sem, e0, e1, e4', e7, e10, e11, decide_true]
      exact hQ _ _ fun w' hs => ⟨rfl, hs.anchor (by simp)⟩
    | some x =>
      obtain ⟨z, u⟩ := x
      have hz := takeZ_le (by omega) hx
      have k0 : decide ((u : Int) < 0) = false := decide_eq_false (by omega)
      rw [Gz.endV_some]
      simp -implicitDefEqProofs (disch := omega) only [go_sem, e0, e1, e4', e7, e10, e11, k0]
      exact hJ _ _ ⟨z, u, by rw [opt_yes hc]; exact hx, hz.1, hz.2, by (first | (simp -implicitDefEqProofs (disch := omega) only [go_sem, e0, e1, e4', e7, e10, e11]; done) | (simp -implicitDefEqProofs (disch := omega) only [go_sem, e0, e1, e4', e7, e10, e11]; rfl)), by (first | (simp -implicitDefEqProofs (disch := omega) only [go_sem, e0, e1, e4', e7, e10, e11]; done) | (simp -implicitDefEqProofs (disch := omega) only [go_sem, e0, e1, e4', e7, e10, e11]; rfl)), by (first | (simp -implicitDefEqProofs (disch := omega) only [go_sem, e0, e1, e4', e7, e10, e11]; done) | (simp -implicitDefEqProofs (disch := omega) only [go_sem, e0, e1, e4', e7, e10, e11]; rfl)), by (first | (simp -implicitDefEqProofs (disch := omega) only [go_sem, e0, e1, e4', e7, e10, e11]; done) | (simp -implicitDefEqProofs (disch := omega) only [go_sem, e0, e1, e4', e7, e10, e11]; rfl)), by (first | (simp -implicitDefEqProofs (disch := omega) only [go_sem, e0, e1, e4', e7, e10, e11]; done) | (simp -implicitDefEqProofs (disch := omega) only [go_sem, e0, e1, e4', e7, e10, e11]; rfl)), by (first | (simp -implicitDefEqProofs (disch := omega) only [go_sem]; done) | (simp -implicitDefEqProofs (disch := omega) only [go_sem]; rfl)), rfl⟩
  · rw [opt_no hc] at hQ
    simp -implicitDefEqProofs (disch := omega) only [go_sem, e0, e1, e4', e7, e10, e11]
    exact hJ _ _ ⟨[], q, opt_no hc _ _, by omega, by omega, by (first | (simp -implicitDefEqProofs (disch := omega) only [go_sem, e0, e1, e4', e7, e10, e11]; done) | (simp -implicitDefEqProofs (disch := omega) only [go_sem, e0, e1, e4', e7, e10, e11]; rfl)), by (first | (simp -implicitDefEqProofs (disch := omega) only [go_sem, e0, e1, e4', e7, e10, e11]; done) | (simp -implicitDefEqProofs (disch := omega) only [go_sem, e0, e1, e4', e7, e10, e11]; rfl)), by (first | (simp -implicitDefEqProofs (disch := omega) only [go_sem, e0, e1, e4', e7, e10, e11]; done) | (simp -implicitDefEqProofs (disch := omega) only [go_sem, e0, e1, e4', e7, e10, e11]; rfl)), by (first | (simp -implicitDefEqProofs (disch := omega) only [go_sem, e0, e1, e4', e7, e10, e11]; done) | (simp -implicitDefEqProofs (disch := omega) only [go_sem, e0, e1, e4', e7, e10, e11]; rfl)), by (first | (simp -implicitDefEqProofs (disch := omega) only [go_sem, e0, e1, e4', e7, e10, e11]; done) | (simp -implicitDefEqProofs (disch := omega) only [go_sem, e0, e1, e4', e7, e10, e11]; rfl)), by (first | (simp -implicitDefEqProofs (disch := omega) only [go_sem, e0, e1, e4', e7, e10, e11]; done) | (simp -implicitDefEqProofs (disch := omega) only [go_sem, e0, e1, e4', e7, e10, e11]; rfl)), rfl⟩
  rintro f h ⟨n, q2, ho, hq2, hq2s, e0, e1, e4', e7, e10, e11, rfl⟩
  rw [ho] at hQ
  simp only at hQ
  simp -implicitDefEqProofs (disch := omega) only [go_sem, e0, e1, e4', e7, e10, e11]
  refine RCall_eq (rgz_has F 16 (by omega) (by omega)) ?_
  simp -implicitDefEqProofs (disch := omega) only [go_sem, e0, e1, e4', e7, e10, e11]
  refine RC_join (fun f h => ∃ t q3, Gz.opt F 16 Gz.takeZ s q2 = some (t, q3) ∧ q2 ≤ q3 ∧ q3 ≤ s.length ∧ f 0 = str s ∧ f 1 = .int .i64 (p : Int) ∧ f 4 = .pointer (some ⟨g, 0, none⟩) ∧ f 7 = .int .i64 (F : Int) ∧ f 10 = .pointer (some ⟨g2, 0, none⟩) ∧ f 11 = .int .i64 (q3 : Int) ∧
    h = [.cells g2 49 #[.int .i64 (Vint.numS s (p + 4) 4 : Int), str e, str n, str t, .int .i64 ((s.getD (p + 8) 0).toNat : Int), .int .i64 ((s.getD (p + 9) 0).toNat : Int), .bool (Gz.has F 1), .bool (Gz.has F 2), .int .i64 ((F / 4 * 4 : Nat) : Int)], .cells g 49 #[.int .i64 0, str [], str [], str [], .int .i64 0, .int .i64 0, .bool false, .bool false, .int .i64 0], .anchor w []]) (fun J hJ hc => ?_) (fun J hJ hc => ?_) ?_
  · rw [opt_yes hc] at hQ
    simp -implicitDefEqProofs (disch := omega) only [go_sem, e0, e1, e4', e7, e10, e11]
    refine RCall_eq (rgz_ended s hsl q2 (by omega)) ?_
    cases hx : Gz.takeZ s q2 with
    | none =>
      rw [hx] at hQ
      simp only [Gz.parV_err] at hQ
      rw [Gz.endV_none]
      simp -implicitDefEqProofs (disch := omega) only [go_sem, e0, e1, e4', e7, e10, e11, decide_true]
      exact hQ _ _ fun w' hs => ⟨rfl, hs.anchor (by simp)⟩
    | some x =>
      obtain ⟨z, u⟩ := x
      have hz := takeZ_le (by omega) hx
      have k0 : decide ((u : Int) < 0) = false := decide_eq_false (by omega)
      rw [Gz.endV_some]
      simp -implicitDefEqProofs (disch := omega) only [go_sem, e0, e1, e4', e7, e10, e11, k0]
      exact hJ _ _ ⟨z, u, by rw [opt_yes hc]; exact hx, hz.1, hz.2, by (first | (simp -implicitDefEqProofs (disch := omega) only [go_sem, e0, e1, e4', e7, e10, e11]; done) | (simp -implicitDefEqProofs (disch := omega) only [go_sem, e0, e1, e4', e7, e10, e11]; rfl)), by (first | (simp -implicitDefEqProofs (disch := omega) only [go_sem, e0, e1, e4', e7, e10, e11]; done) | (simp -implicitDefEqProofs (disch := omega) only [go_sem, e0, e1, e4', e7, e10, e11]; rfl)), by (first | (simp -implicitDefEqProofs (disch := omega) only [go_sem, e0, e1, e4', e7, e10, e11]; done) | (simp -implicitDefEqProofs (disch := omega) only [go_sem, e0, e1, e4', e7, e10, e11]; rfl)), by (first | (simp -implicitDefEqProofs (disch := omega) only [go_sem, e0, e1, e4', e7, e10, e11]; done) | (simp -implicitDefEqProofs (disch := omega) only [go_sem, e0, e1, e4', e7, e10, e11]; rfl)), by (first | (simp -implicitDefEqProofs (disch := omega) only [go_sem, e0, e1, e4', e7, e10, e11]; done) | (simp -implicitDefEqProofs (disch := omega) only [go_sem, e0, e1, e4', e7, e10, e11]; rfl)), by (first | (simp -implicitDefEqProofs (disch := omega) only [go_sem]; done) | (simp -implicitDefEqProofs (disch := omega) only [go_sem]; rfl)), rfl⟩
  · rw [opt_no hc] at hQ
    simp -implicitDefEqProofs (disch := omega) only [go_sem, e0, e1, e4', e7, e10, e11]
    exact hJ _ _ ⟨[], q2, opt_no hc _ _, by omega, by omega, by (first | (simp -implicitDefEqProofs (disch := omega) only [go_sem, e0, e1, e4', e7, e10, e11]; done) | (simp -implicitDefEqProofs (disch := omega) only [go_sem, e0, e1, e4', e7, e10, e11]; rfl)), by (first | (simp -implicitDefEqProofs (disch := omega) only [go_sem, e0, e1, e4', e7, e10, e11]; done) | (simp -implicitDefEqProofs (disch := omega) only [go_sem, e0, e1, e4', e7, e10, e11]; rfl)), by (first | (simp -implicitDefEqProofs (disch := omega) only [go_sem, e0, e1, e4', e7, e10, e11]; done) | (simp -implicitDefEqProofs (disch := omega) only [go_sem, e0, e1, e4', e7, e10, e11]; rfl)), by (first | (simp -implicitDefEqProofs (disch := omega) only [go_sem, e0, e1, e4', e7, e10, e11]; done) | (simp -implicitDefEqProofs (disch := omega) only [go_sem, e0, e1, e4', e7, e10, e11]; rfl)), by (first | (simp -implicitDefEqProofs (disch := omega) only [go_sem, e0, e1, e4', e7, e10, e11]; done) | (simp -implicitDefEqProofs (disch := omega) only [go_sem, e0, e1, e4', e7, e10, e11]; rfl)), by (first | (simp -implicitDefEqProofs (disch := omega) only [go_sem, e0, e1, e4', e7, e10, e11]; done) | (simp -implicitDefEqProofs (disch := omega) only [go_sem, e0, e1, e4', e7, e10, e11]; rfl)), rfl⟩
  rintro f h ⟨t, q3, ho, hq3, hq3s, e0, e1, e4', e7, e10, e11, rfl⟩
  rw [ho] at hQ
  simp only at hQ
  simp -implicitDefEqProofs (disch := omega) only [go_sem, e0, e1, e4', e7, e10, e11]
  refine RCall_eq (rgz_has F 2 (by omega) (by omega)) ?_
  simp -implicitDefEqProofs (disch := omega) only [go_sem, e0, e1, e4', e7, e10, e11]
  cases hh2 : Gz.has F 2 with
  | false =>
    rw [hh2, if_neg (by simp)] at hQ
    simp -implicitDefEqProofs (disch := omega) only [go_sem, e0, e1, e4', e7, e10, e11]
    exact hQ _ _ fun w' hs => ⟨by unfold Gz.parV Gz.hdOf Gz.hdV; simp only [hh2], hs.anchor (by simp)⟩
  | true =>
    rw [hh2, if_pos rfl] at hQ
    by_cases hq2 : q3 + 2 ≤ s.length
    rotate_left
    · rw [if_neg hq2, Gz.parV_err] at hQ
      simp -implicitDefEqProofs (disch := omega) only [go_sem, e0, e1, e4', e7, e10, e11]
      refine RCall_eq (ref_num_no s hsl q3 2 (by omega) (by omega) (by omega)) ?_
      simp -implicitDefEqProofs (disch := omega) only [go_sem, e0, e1, e4', e7, e10, e11]
      exact hQ _ _ fun w' hs => ⟨rfl, hs.anchor (by simp)⟩
    rw [if_pos hq2] at hQ
    simp -implicitDefEqProofs (disch := omega) only [go_sem, e0, e1, e4', e7, e10, e11]
    refine RCall_eq (ref_num_at s hsl q3 2 (by omega) hq2) ?_
    simp -implicitDefEqProofs (disch := omega) only [go_sem, e0, e1, e4', e7, e10, e11]
    have hcl : ((s.drop p).take (q3 - p)).length ≤ 4611686018427387904 := by rw [List.length_take, List.length_drop]; omega
    refine RCall_eq (ref_of ((s.drop p).take (q3 - p)) (by omega)) ?_
    simp -implicitDefEqProofs (disch := omega) only [go_sem, e0, e1, e4', e7, e10, e11, sumOf_rem]
    by_cases hsum : Vint.numS s q3 2 = Gz.sumOf ((s.drop p).take (q3 - p))
    · rw [if_pos hsum] at hQ
      have k : decide ((Vint.numS s q3 2 : Int) = (Gz.sumOf ((s.drop p).take (q3 - p)) : Int)) = true := decide_eq_true (by omega)
      simp -implicitDefEqProofs (disch := omega) only [go_sem, e0, e1, e4', e7, e10, e11, k]
      exact hQ _ _ fun w' hs => ⟨by unfold Gz.parV Gz.hdOf Gz.hdV; simp only [hh2]; rfl, hs.anchor (by simp)⟩
    · rw [if_neg hsum, Gz.parV_err] at hQ
      have k : decide ((Vint.numS s q3 2 : Int) = (Gz.sumOf ((s.drop p).take (q3 - p)) : Int)) = false := decide_eq_false (by omega)
      simp -implicitDefEqProofs (disch := omega) only [go_sem, e0, e1, e4', e7, e10, e11, k]
      exact hQ _ _ fun w' hs => ⟨rfl, hs.anchor (by simp)⟩
end Go.Proofs.Ytlmbebnpnnkhmaa
