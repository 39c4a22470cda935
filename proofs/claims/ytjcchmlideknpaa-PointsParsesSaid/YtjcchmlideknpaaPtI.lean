/- points: the walks: points read. -/
import Derived.Test.YtjcchmlideknpaaPtH
namespace Go.Proofs.Ytjcchmlideknpaa
set_option linter.unusedSimpArgs false
set_option linter.unusedVariables false
open H
theorem num_off {s : List UInt8} {a : Int} : Pt.num s a false = (0, a, false) := by unfold Pt.num; rw [if_neg (by simp)]
theorem num_zero {s : List UInt8} {a : Int} {wh : Bool} (h : (Pt.num s a wh).2.2 = false) : (Pt.num s a wh).1 = 0 := by
  unfold Pt.num at *
  split at h
  · cases h
  · rename_i hc; rw [if_neg hc]
/-- How far the points have come. -/
def ReadAt (s : List UInt8) (m : Nat) (a : Int) (wh : Bool) (acc : List Pt.P) : Prop := (wh = true ∧ Pt.rdPts s m a acc = Pt.read s) ∨ (wh = false ∧ m = 0 ∧ acc = [] ∧ Pt.read s = none)
set_option maxRecDepth 20000 in
set_option maxHeartbeats 4000000 in
theorem pts_read (s : List UInt8) (hsl : s.length ≤ 1000000) (h4 : 4 ≤ s.length) (w : World) : Does Try.prog 45 #[str s] w fun v w' => ∃ rs, Sat w' (rs ++ [.anchor w []]) ∧ ∃ v0, v = .tuple #[v0, .bool (Pt.read s).isSome] ∧ NewPts v0 rs ((Pt.read s).getD []) := by
  refine does (args := [str s]) Try.func45 rfl (by kernel_rfl) (by kernel_rfl) rfl ent_45 (Sat.start w []) ?_; intro QV hQ
  have hfail : ∀ w' h, Sat w' h → Res.anchor w [] ∈ h → Pt.read s = none → ∃ rs, Sat w' (rs ++ [.anchor w []]) ∧ ∃ v0, Value.tuple #[.slice none 0 0, .bool false] = .tuple #[v0, .bool (Pt.read s).isSome] ∧ NewPts v0 rs ((Pt.read s).getD []) := fun w' h hs hm hn => by
    rw [hn]
    exact ⟨_, Sat.own_nil (w := w') (h := [.anchor w []]) 46 5 ⟨hs.mem _ hm, fun k hk => hs.lt _ hm k hk, fun _ hx => absurd hx (by simp), trivial⟩, _, rfl, none, 0, rfl, Nat.le_refl _, rfl⟩
  simp -implicitDefEqProofs (disch := omega) only [go_sem]
  refine RNew_intro fun g1 hg1 => ?_
  simp -implicitDefEqProofs (disch := omega) only [go_sem]
  refine RNew_intro fun g4 hg4 => ?_
  have n14 : g1 ≠ g4 := Nat.ne_of_lt hg4.1
  simp -implicitDefEqProofs (disch := omega) only [go_sem]
  refine RNew_intro fun g5 hg5 => ?_
  have n45 : g4 ≠ g5 := Nat.ne_of_lt hg5.1
  have n15 : g1 ≠ g5 := Nat.ne_of_lt hg5.2.1
  simp -implicitDefEqProofs (disch := omega) only [go_sem]
  have hnum : ∀ (a : Int) (wh : Bool) (suf : List Res) (w1 : World), 0 ≤ a → a ≤ s.length → Res.cells g1 9 #[str s] ∈ suf → Sat w1 ([.cells g4 3 #[.int .i64 a], .cells g5 4 #[.bool wh]] ++ suf) →
      Does Try.prog 58 #[.pointer (some ⟨g1, 0, none⟩), .pointer (some ⟨g4, 0, none⟩), .pointer (some ⟨g5, 0, none⟩)] w1 fun v w' => ∃ rs, Sat w' (rs ++ [.anchor w1 [g4, g5]]) ∧ NumLeft s a wh g4 g5 v rs := by
    intro a wh suf w1 h0 h1 hm hs
    have hm' : Res.cells g1 9 #[str s] ∈ [.cells g4 3 #[.int .i64 a], .cells g5 4 #[.bool wh]] ++ suf := List.mem_append_right _ hm
    refine pts_num s (by omega) a wh (by omega) g1 g4 g5 n14 n15 n45 w1 (hs.lt _ hm' g1 rfl) ?_ (hs.reanchors (by simp [Res.fp]))
    rw [cell_cells (hs.mem _ hm') rfl, if_pos rfl]; rfl
  have hS : ∀ (a : Int) (wh : Bool), ∀ k ∈ [g4, g5], ∃ r ∈ [Res.cells g4 3 #[.int .i64 a], .cells g5 4 #[.bool wh]], r.fp k := by simp [Res.fp]
  refine RCall_frame [.cells g4 3 #[.int .i64 4], .cells g5 4 #[.bool true]] [.cells g1 9 #[str s], .anchor w []] [g4, g5] (fun _ hs => hs.swap2) (hS 4 true) (fun w1 hs => hnum 4 true _ w1 (by omega) (by omega) (by simp) hs) ?_
  rintro _ _ ⟨rfl, rfl⟩
  obtain ⟨k1, k2, k3, k4⟩ := Pt.num_in s 4 true (by omega) (by omega)
  have hrd : Pt.read s = if (Pt.num s 4 true).2.2 = true then Pt.rdPts s (Pt.num s 4 true).1.toNat (Pt.num s 4 true).2.1 [] else none := rfl
  have hz := @num_zero s 4 true
  generalize Pt.num s 4 true = x0 at *
  obtain ⟨m0, a0, wh0⟩ := x0
  simp only [] at k1 k2 k3 k4 hrd hz
  obtain ⟨m0, rfl⟩ : ∃ m : Nat, m0 = (m : Int) := ⟨m0.toNat, by omega⟩
  simp -implicitDefEqProofs (disch := omega) only [go_sem]
  refine RLoop_from (fun f h => ∃ (m n : Nat) (a : Int) (wh : Bool) (acc : List Pt.P) (a' : Option Addr) (c' : Nat), (m : Int) ≤ 9223372036854775807 ∧ 0 ≤ a ∧ a ≤ s.length ∧ n = acc.length ∧ (n : Int) ≤ a ∧ n ≤ c' ∧ ReadAt s m a wh acc ∧ f 1 = .pointer (some ⟨g1, 0, none⟩) ∧ f 4 = .pointer (some ⟨g4, 0, none⟩) ∧ f 5 = .pointer (some ⟨g5, 0, none⟩) ∧
    f 6 = .func (.func 58) #[] #[.pointer (some ⟨g1, 0, none⟩), .pointer (some ⟨g4, 0, none⟩), .pointer (some ⟨g5, 0, none⟩)] ∧ f 7 = .slice a' n c' ∧ f 8 = .int .i64 (m : Int) ∧
    h = [Own 46 5 (.slice a' n c') n (acc.flatMap Pt.ptC), .cells g4 3 #[.int .i64 a], .cells g5 4 #[.bool wh], .cells g1 9 #[str s], .anchor w []]) (fun f _ => (ival (f 8)).toNat) ?_ ?_
  · refine fun w1 hs => ⟨_, Sat.own_nil 46 5 hs, m0, 0, a0, wh0, [], none, 0, by omega, by omega, k4, rfl, by simp; omega, by omega, ?_, by (first | (simp -implicitDefEqProofs (disch := omega) only [go_sem]; done) | (simp -implicitDefEqProofs (disch := omega) only [go_sem]; rfl)), by (first | (simp -implicitDefEqProofs (disch := omega) only [go_sem]; done) | (simp -implicitDefEqProofs (disch := omega) only [go_sem]; rfl)), by (first | (simp -implicitDefEqProofs (disch := omega) only [go_sem]; done) | (simp -implicitDefEqProofs (disch := omega) only [go_sem]; rfl)), by (first | (simp -implicitDefEqProofs (disch := omega) only [go_sem]; done) | (simp -implicitDefEqProofs (disch := omega) only [go_sem]; rfl)), by (first | (simp -implicitDefEqProofs (disch := omega) only [go_sem]; done) | (simp -implicitDefEqProofs (disch := omega) only [go_sem]; rfl)), by (first | (simp -implicitDefEqProofs (disch := omega) only [go_sem]; done) | (simp -implicitDefEqProofs (disch := omega) only [go_sem]; rfl)), rfl⟩
    cases wh0 with
    | true => exact .inl ⟨rfl, by rw [hrd]; simp⟩
    | false => exact .inr ⟨rfl, by have := hz rfl; omega, rfl, by rw [hrd]; simp⟩
  clear k1 k2 k3 k4 hrd hz
  rintro f h ⟨m, n, a, wh, acc, a', c', hm63, ha0, ha1, hn, hna, hnc, hat, e1, e4, e5, e6, e7, e8, rfl⟩ Q' hQ'
  have hmi : ival (f 8) = (m : Int) := by rw [e8]; rfl
  by_cases hmz : m = 0
  · subst hmz
    have hend : (Pt.read s).isSome = wh ∧ (Pt.read s).getD [] = acc := by
      rcases hat with ⟨rfl, h⟩ | ⟨rfl, _, rfl, h⟩
      · rw [← h]; exact ⟨rfl, rfl⟩
      · rw [h]; exact ⟨rfl, rfl⟩
    have g0 : decide ((0 : Int) < ((0 : Nat) : Int)) = false := rfl
    simp -implicitDefEqProofs (disch := omega) only [go_sem, e1, e4, e5, e6, e7, e8, g0]
    refine RDraw_seg (by kernel_rfl) (by kernel_rfl) 4 rfl ?_
    refine RS_det (by kernel_rfl) ?_
    repeat (first | refine ToO_step (fun Q hq => by (simp -implicitDefEqProofs (disch := omega) only [go_sem, e1, e4, e5, e6, e7, e8, n45]; exact hq)) ?_ | refine ToO_guard (by (simp -implicitDefEqProofs only [go_sem, e1, e4, e5, e6, e7, e8, n45]; first | done | fail)) (fun Q hq => by (simp -implicitDefEqProofs (disch := omega) only [go_sem, e1, e4, e5, e6, e7, e8, n45]; exact hq)) ?_ | refine ToO_skip (.inl (by (simp -implicitDefEqProofs only [go_sem, e1, e4, e5, e6, e7, e8, n45]; first | done | fail))) ?_ | refine ToO_skip (.inr (by (simp -implicitDefEqProofs only [go_sem, e1, e4, e5, e6, e7, e8, n45]; first | done | fail))) ?_)
    refine ToO_nil ?_
    simp -implicitDefEqProofs (disch := omega) only [go_sem, e1, e4, e5, e6, e7, e8]
    rw [hend.1, hend.2] at hQ
    subst hn
    exact hQ _ _ fun w' hs => ⟨_, Sat.sub (h' := [Own 46 5 (.slice a' acc.length c') acc.length (acc.flatMap Pt.ptC)] ++ [.anchor w []]) (.cons_cons _ (.cons _ (.cons _ (.cons _ (List.Sublist.refl _))))) hs, _, rfl, a', c', rfl, hnc, rfl⟩
  have g0 : decide ((0 : Int) < (m : Int)) = true := decide_eq_true (by omega)
  obtain ⟨hwh, hrd⟩ : wh = true ∧ Pt.rdPts s m a acc = Pt.read s := hat.resolve_right (fun h => hmz h.2.1)
  subst hwh
  clear hat
  obtain ⟨m, rfl⟩ : ∃ k, m = k + 1 := ⟨m - 1, by omega⟩
  have hm1 : ((m + 1 : Nat) : Int) - 1 = (m : Int) := by omega
  simp -implicitDefEqProofs (disch := omega) only [go_sem, e1, e4, e5, e6, e7, e8, g0, n45]
  refine RCall_frame [.cells g4 3 #[.int .i64 a], .cells g5 4 #[.bool true]] [Own 46 5 (.slice a' n c') n (acc.flatMap Pt.ptC), .cells g1 9 #[str s], .anchor w []] [g4, g5] (fun _ hs => Sat.perm (List.perm_middle (l₁ := [_, _])).symm hs) (hS a true) (fun w1 hs => hnum a true _ w1 ha0 ha1 (by simp) hs) ?_
  rintro _ _ ⟨rfl, rfl⟩
  have x1 := Pt.num_in s a true ha0 ha1
  have x2 := Pt.num2_in s a ha0 ha1
  have x3 := Pt.num3_in s a ha0 ha1
  have x4 := Pt.num4_in s a ha0 ha1
  have y2 : Pt.num2 s a = Pt.num s (Pt.num s a true).2.1 (Pt.num s a true).2.2 := rfl
  have y3 : Pt.num3 s a = Pt.num s (Pt.num2 s a).2.1 (Pt.num2 s a).2.2 := rfl
  have y4 : Pt.num4 s a = Pt.num s (Pt.num3 s a).2.1 (Pt.num3 s a).2.2 := rfl
  have hrp : Pt.rdPt s a = if (Pt.num4 s a).2.2 = true ∧ (Vint.next s (Pt.num4 s a).2.1).2.2 = 0 then some (⟨(Pt.num s a true).1, (Pt.num2 s a).1, (Pt.num3 s a).1, (Pt.num4 s a).1, (Vint.next s (Pt.num4 s a).2.1).1⟩, (Vint.next s (Pt.num4 s a).2.1).2.1) else none := rfl
  have hin := fun p a2 => Pt.rdPt_in (s := s) (a := a) (p := p) (a' := a2) ha0 ha1 (by simp only [maxLen]; omega)
  obtain ⟨v1, a1, w1, z1⟩ : ∃ v1 a1 w1, Pt.num s a true = (v1, a1, w1) := ⟨_, _, _, rfl⟩
  obtain ⟨v2, a2, w2, z2⟩ : ∃ v1 a1 w1, Pt.num2 s a = (v1, a1, w1) := ⟨_, _, _, rfl⟩
  obtain ⟨v3, a3, w3, z3⟩ : ∃ v1 a1 w1, Pt.num3 s a = (v1, a1, w1) := ⟨_, _, _, rfl⟩
  obtain ⟨v4, a4, w4, z4⟩ : ∃ v1 a1 w1, Pt.num4 s a = (v1, a1, w1) := ⟨_, _, _, rfl⟩
  rw [z1] at x1 y2 hrp ⊢
  rw [z2] at x2 y2 y3 hrp
  rw [z3] at x3 y3 y4 hrp
  rw [z4] at x4 y4 hrp
  simp only [] at x1 x2 x3 x4 y2 y3 y4 hrp
  simp -implicitDefEqProofs (disch := omega) only [go_sem]
  refine RNew_intro fun gp hgp => ?_
  have q4 : g4 ≠ gp := Nat.ne_of_lt hgp.1
  have q5 : g5 ≠ gp := Nat.ne_of_lt hgp.2.1
  have q1 : g1 ≠ gp := Nat.ne_of_lt hgp.2.2.2.1
  simp -implicitDefEqProofs (disch := omega) only [go_sem, e1, e4, e5, e6, e7, e8]
  refine RCall_frame [.cells g4 3 #[.int .i64 a1], .cells g5 4 #[.bool w1]] [.cells gp 46 #[.int .i64 v1, .int .i64 0, .int .i64 0, .int .i64 0, str []], Own 46 5 (.slice a' n c') n (acc.flatMap Pt.ptC), .cells g1 9 #[str s], .anchor w []] [g4, g5] (fun _ hs => Sat.perm (List.perm_middle (l₁ := [_, _])).symm hs) (hS a1 w1) (fun w' hs => hnum a1 w1 _ w' (by omega) (by omega) (by simp) hs) ?_
  rintro _ _ ⟨rfl, rfl⟩
  rw [← y2]
  simp -implicitDefEqProofs (disch := omega) only [go_sem, e1, e4, e5, e6, e7, e8, q4, q5]
  refine RCall_frame [.cells g4 3 #[.int .i64 a2], .cells g5 4 #[.bool w2]] [.cells gp 46 #[.int .i64 v1, .int .i64 v2, .int .i64 0, .int .i64 0, str []], Own 46 5 (.slice a' n c') n (acc.flatMap Pt.ptC), .cells g1 9 #[str s], .anchor w []] [g4, g5] (fun _ hs => hs) (hS a2 w2) (fun w' hs => hnum a2 w2 _ w' (by omega) (by omega) (by simp) hs) ?_
  rintro _ _ ⟨rfl, rfl⟩
  rw [← y3]
  simp -implicitDefEqProofs (disch := omega) only [go_sem, e1, e4, e5, e6, e7, e8, q4, q5]
  refine RCall_frame [.cells g4 3 #[.int .i64 a3], .cells g5 4 #[.bool w3]] [.cells gp 46 #[.int .i64 v1, .int .i64 v2, .int .i64 v3, .int .i64 0, str []], Own 46 5 (.slice a' n c') n (acc.flatMap Pt.ptC), .cells g1 9 #[str s], .anchor w []] [g4, g5] (fun _ hs => hs) (hS a3 w3) (fun w' hs => hnum a3 w3 _ w' (by omega) (by omega) (by simp) hs) ?_
  rintro _ _ ⟨rfl, rfl⟩
  rw [← y4]
  simp -implicitDefEqProofs (disch := omega) only [go_sem, e1, e4, e5, e6, e7, e8, q4, q5, n14, n15, n45]
  refine RCall_eq (vint_next s (by omega) a4 (by omega)) ?_
  generalize hnx : Vint.next s a4 = nx at *
  obtain ⟨tx, ta, te⟩ := nx
  simp only [] at hrp
  by_cases hok : w4 = true ∧ te = 0
  rotate_left
  · rw [if_neg hok] at hrp
    have hnone : Pt.read s = none := by rw [← hrd, Pt.rdPts, hrp]
    have hd : w4 = false ∨ (w4 = true ∧ decide (te = 0) = false) := by
      cases w4 with
      | false => exact .inl rfl
      | true => exact .inr ⟨rfl, decide_eq_false fun h => hok ⟨rfl, h⟩⟩
    rcases hd with rfl | ⟨rfl, hd⟩
    · simp -implicitDefEqProofs (disch := omega) only [go_sem, e1, e4, e5, e6, e7, e8, q4, q5, n14, n15, n45, Ne.symm n45]
      exact hQ _ _ fun w' hs => hfail w' _ hs (by simp) hnone
    · simp -implicitDefEqProofs (disch := omega) only [go_sem, e1, e4, e5, e6, e7, e8, q4, q5, n14, n15, n45, Ne.symm n45, hd]
      exact hQ _ _ fun w' hs => hfail w' _ hs (by simp) hnone
  obtain ⟨rfl, rfl⟩ := hok
  rw [if_pos ⟨rfl, rfl⟩] at hrp
  obtain ⟨hpin, hta1, hta2⟩ := hin _ _ hrp
  have hrd' : Pt.rdPts s m ta (acc ++ [⟨v1, v2, v3, v4, tx⟩]) = Pt.read s := by rw [← hrd, Pt.rdPts, hrp]
  have hpc := ptC_one ⟨v1, v2, v3, v4, tx⟩
  have hpz := ptC_snoc acc ⟨v1, v2, v3, v4, tx⟩
  simp -implicitDefEqProofs (disch := omega) only [go_sem, e1, e4, e5, e6, e7, e8, q4, q5, n14, n15, n45, Ne.symm n45, decide_true]
  refine RRun_build1z (cs := [.int .i64 v1, .int .i64 v2, .int .i64 v3, .int .i64 v4, str tx]) pts_sl rfl (by omega) fun gn hgn => ?_
  simp -implicitDefEqProofs (disch := omega) only [go_sem, e1, e4, e5, e6, e7, e8]
  refine RRun_append_cells (n := n) (xs := acc.flatMap Pt.ptC) (h' := [.cells g4 3 #[.int .i64 ta], .cells g5 4 #[.bool true], .cells g1 9 #[str s], .anchor w []]) pts_sl (fun _ hs => Sat.perm (List.perm_middle (l₁ := [_, _])) (Sat.sub (.cons _ (.cons_cons _ (.cons_cons _ (.cons _ (List.Sublist.refl _))))) hs)) rfl hpc (by omega) (by simp only [maxLen]; omega) fun a'' c'' hc'' => ?_
  simp -implicitDefEqProofs (disch := omega) only [go_sem, e1, e4, e5, e6, e7, e8]
  refine hQ' _ _ fun w1 hs => ⟨_, hs, ⟨m, n + 1, ta, true, acc ++ [⟨v1, v2, v3, v4, tx⟩], a'', c'', by omega, by omega, hta2, by simp [hn], by omega, hc'', .inl ⟨rfl, hrd'⟩, ?_, ?_, ?_, ?_, ?_, ?_, by rw [hpz]; rfl⟩, ?_⟩
  · (first | (simp -implicitDefEqProofs (disch := omega) only [go_sem, e1, e4, e5, e6, e7, e8]; done) | (simp -implicitDefEqProofs (disch := omega) only [go_sem, e1, e4, e5, e6, e7, e8]; rfl))
  · (first | (simp -implicitDefEqProofs (disch := omega) only [go_sem, e1, e4, e5, e6, e7, e8]; done) | (simp -implicitDefEqProofs (disch := omega) only [go_sem, e1, e4, e5, e6, e7, e8]; rfl))
  · (first | (simp -implicitDefEqProofs (disch := omega) only [go_sem, e1, e4, e5, e6, e7, e8]; done) | (simp -implicitDefEqProofs (disch := omega) only [go_sem, e1, e4, e5, e6, e7, e8]; rfl))
  · (first | (simp -implicitDefEqProofs (disch := omega) only [go_sem, e1, e4, e5, e6, e7, e8]; done) | (simp -implicitDefEqProofs (disch := omega) only [go_sem, e1, e4, e5, e6, e7, e8]; rfl))
  · (first | (simp -implicitDefEqProofs (disch := omega) only [go_sem, e1, e4, e5, e6, e7, e8]; done) | (simp -implicitDefEqProofs (disch := omega) only [go_sem, e1, e4, e5, e6, e7, e8]; rfl))
  · (first | (simp -implicitDefEqProofs (disch := omega) only [go_sem, e1, e4, e5, e6, e7, e8, hm1]; done) | (simp -implicitDefEqProofs (disch := omega) only [go_sem, e1, e4, e5, e6, e7, e8, hm1]; rfl))
  · simp -implicitDefEqProofs (disch := omega) only [go_sem, e1, e4, e5, e6, e7, e8, hmi, hm1]; omega
end Go.Proofs.Ytjcchmlideknpaa
