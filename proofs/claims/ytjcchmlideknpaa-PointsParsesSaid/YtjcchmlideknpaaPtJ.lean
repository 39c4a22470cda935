/- points: the walks: points of bytes. -/
import Derived.Test.YtjcchmlideknpaaPtI
namespace Go.Proofs.Ytjcchmlideknpaa
set_option linter.unusedSimpArgs false
set_option linter.unusedVariables false
open H
set_option maxRecDepth 20000 in
set_option maxHeartbeats 4000000 in
theorem pts_parse (s : List UInt8) (hsl : s.length ≤ 1000000) (w : World) : Does Try.prog 23 #[str s] w fun v w' => ∃ rs, Sat w' (rs ++ [.anchor w []]) ∧ ∃ v0, v = .tuple #[v0, .int .i64 (Pt.parse s).2] ∧ NewPts v0 rs (Pt.parse s).1 := by
  refine does (args := [str s]) Try.func23 rfl (by kernel_rfl) (by kernel_rfl) rfl ent_23 (Sat.start w []) ?_; intro QV hQ
  have hfail : ∀ e : Int, ∀ w' h, Sat w' h → Res.anchor w [] ∈ h → ∃ rs, Sat w' (rs ++ [.anchor w []]) ∧ ∃ v0, Value.tuple #[.slice none 0 0, .int .i64 e] = .tuple #[v0, .int .i64 e] ∧ NewPts v0 rs [] := fun e w' h hs hm =>
    ⟨_, Sat.own_nil (w := w') (h := [.anchor w []]) 46 5 ⟨hs.mem _ hm, fun k hk => hs.lt _ hm k hk, fun _ hx => absurd hx (by simp), trivial⟩, _, rfl, none, 0, rfl, Nat.le_refl _, rfl⟩
  by_cases h1 : s.length < 8
  · have g1 : (s.length : Int) - 4 < 4 := by omega
    have hp : Pt.parse s = ([], 2) := by unfold Pt.parse; rw [if_pos h1]
    rw [hp] at hQ
    simp -implicitDefEqProofs (disch := omega) only [go_sem, g1, decide_true]
    exact hQ _ _ fun w' hs => hfail 2 w' _ hs (by simp)
  have g1 : ¬ (s.length : Int) - 4 < 4 := by omega
  obtain ⟨n, hn⟩ : ∃ n, s.length = n + 4 := ⟨s.length - 4, by omega⟩
  have e1 : (s.length : Int) - 4 = (n : Int) := by omega
  have e2 : s.length - 4 = n := by omega
  have gn : ¬ (n : Int) < 4 := by omega
  by_cases h2 : s.take 4 = [82, 83, 84, 80]
  rotate_left
  · have hp : Pt.parse s = ([], 12) := by unfold Pt.parse; rw [if_neg h1, if_pos h2]
    rw [hp] at hQ
    simp -implicitDefEqProofs (disch := omega) only [go_sem, e1, gn, h2, decide_false]
    exact hQ _ _ fun w' hs => hfail 12 w' _ hs (by simp)
  simp -implicitDefEqProofs (disch := omega) only [go_sem, e1, gn, h2, decide_true, decide_false]
  refine RDraw_seg (by kernel_rfl) (by kernel_rfl) 9 rfl ?_
  refine RS_det (by kernel_rfl) ?_
  repeat (first | refine ToO_step (fun Q hq => by (simp -implicitDefEqProofs (disch := omega) only [go_sem, e1]; exact hq)) ?_ | refine ToO_guard (by (simp -implicitDefEqProofs only [go_sem, e1]; first | done | fail)) (fun Q hq => by (simp -implicitDefEqProofs (disch := omega) only [go_sem, e1]; exact hq)) ?_ | refine ToO_skip (.inl (by (simp -implicitDefEqProofs only [go_sem, e1]; first | done | fail))) ?_ | refine ToO_skip (.inr (by (simp -implicitDefEqProofs only [go_sem, e1]; first | done | fail))) ?_)
  first | refine ToO_step (fun Q hq => by (simp -implicitDefEqProofs (disch := omega) only [go_sem, e1]; refine RCall_eq (pts_sum (s.take n) (by rw [List.length_take]; omega)) ?_; simp -implicitDefEqProofs (disch := omega) only [go_sem, e1]; exact hq)) ?_ | refine ToO_guard (by (simp -implicitDefEqProofs only [go_sem, e1]; first | done | fail)) (fun Q hq => by (simp -implicitDefEqProofs (disch := omega) only [go_sem, e1]; refine RCall_eq (pts_sum (s.take n) (by rw [List.length_take]; omega)) ?_; simp -implicitDefEqProofs (disch := omega) only [go_sem, e1]; exact hq)) ?_
  repeat (first | refine ToO_step (fun Q hq => by (simp -implicitDefEqProofs (disch := omega) only [go_sem, e1]; exact hq)) ?_ | refine ToO_guard (by (simp -implicitDefEqProofs only [go_sem, e1]; first | done | fail)) (fun Q hq => by (simp -implicitDefEqProofs (disch := omega) only [go_sem, e1]; exact hq)) ?_ | refine ToO_skip (.inl (by (simp -implicitDefEqProofs only [go_sem, e1]; first | done | fail))) ?_ | refine ToO_skip (.inr (by (simp -implicitDefEqProofs only [go_sem, e1]; first | done | fail))) ?_)
  refine ToO_nil ?_
  have t1 : (s.take n).length = n := by rw [List.length_take]; omega
  by_cases h3 : s.drop n = Pt.sumB (s.take n)
  rotate_left
  · have hp : Pt.parse s = ([], 5) := by unfold Pt.parse; rw [if_neg h1, if_neg (by simp [h2]), e2, if_pos h3]
    rw [hp] at hQ
    simp -implicitDefEqProofs (disch := omega) only [go_sem, h3, decide_false]
    exact hQ _ _ fun w' hs => hfail 5 w' _ hs (by simp)
  have hp : Pt.parse s = match Pt.read (s.take n) with
      | none => ([], 4)
      | some l => if Pt.build l = (s, 0) then (l, 0) else ([], 4) := by unfold Pt.parse; rw [if_neg h1, if_neg (by simp [h2]), e2, if_neg (by simp [h3])]; cases Pt.read (s.take n) <;> rfl
  rw [hp] at hQ
  clear hp
  simp -implicitDefEqProofs (disch := omega) only [go_sem, h3, decide_true, e1]
  refine RCall_newS (fun w1 hs => pts_read (s.take n) (by omega) (by omega) w1) ?_
  rintro _ rs ⟨v0, rfl, a, c, rfl, hc, rfl⟩ _
  have hin := @Pt.read_in (s.take n) (by simp only [maxLen]; omega) (by omega)
  generalize Pt.read (s.take n) = r at *
  cases r with
  | none =>
    simp -implicitDefEqProofs (disch := omega) only [go_sem]
    exact hQ _ _ fun w' hs => hfail 4 w' _ hs (by simp)
  | some l =>
    obtain ⟨i1, i2⟩ := hin rfl
    simp only [Option.getD_some, Option.isSome_some] at hc hQ ⊢
    simp -implicitDefEqProofs (disch := omega) only [go_sem]
    refine RCall_eqS (fun w1 hs => pts_build l a c (by omega) i1 w1 (own_pts (c := c) hs (by simp))) ?_
    generalize hb : Pt.build l = be at *
    obtain ⟨bb, e⟩ := be
    by_cases he : e = 0
    · by_cases hbs : bb = s
      · rw [if_pos (by rw [he, hbs])] at hQ
        simp -implicitDefEqProofs (disch := omega) only [go_sem, he, hbs, decide_true]
        exact hQ _ _ fun w' hs => ⟨_, hs, _, rfl, a, c, rfl, hc, rfl⟩
      · rw [if_neg (fun h => hbs (Prod.mk.inj h).1)] at hQ
        simp -implicitDefEqProofs (disch := omega) only [go_sem, he, hbs, decide_true, decide_false]
        exact hQ _ _ fun w' hs => hfail 4 w' _ hs (by simp)
    · rw [if_neg (fun h => he (Prod.mk.inj h).2)] at hQ
      simp -implicitDefEqProofs (disch := omega) only [go_sem, he, decide_false]
      exact hQ _ _ fun w' hs => hfail 4 w' _ hs (by simp)
end Go.Proofs.Ytjcchmlideknpaa
