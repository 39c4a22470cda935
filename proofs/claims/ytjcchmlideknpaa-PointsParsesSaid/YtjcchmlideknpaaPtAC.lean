/- points' reference: the walks: points of bytes; the law. -/
import Derived.Test.YtjcchmlideknpaaPtAB
import Derived.Test.YtjcchmlideknpaaTurn
namespace Go.Proofs.Ytjcchmlideknpaa
set_option linter.unusedSimpArgs false
set_option linter.unusedVariables false
open H
theorem fix_num (s : List UInt8) (p k : Nat) (h : p + k ≤ s.length) : Vint.fixL k (Vint.numS s p k) = (s.drop p).take k := by
  refine List.ext_getElem? fun i => ?_
  rcases Nat.lt_or_ge i k with hi | hi
  · have hg := Vint.fixL_get k (Vint.numS s p k) i hi
    rw [hg, numS_digit s p k i hi, List.getElem?_take_of_lt hi, List.getElem?_drop, List.getD_eq_getElem?_getD, List.getElem?_eq_getElem (by omega)]
    simp
  · rw [List.getElem?_eq_none (by rw [Vint.fixL_len]; omega), List.getElem?_eq_none (by rw [List.length_take]; omega)]
theorem number_sum {s : List UInt8} {n : Nat} (hn : s.length = n + 4) : Vint.number s (n : Int) 4 = ((Vint.numS s n 4 : Int), 0) := by
  have h := Vint.numS_lt s n 4
  unfold Vint.number
  rw [if_neg (by unfold Vint.wide; omega), if_neg (by omega)]
  have e : (4 : Int).toNat = 4 := rfl
  rw [Int.toNat_natCast, e, if_neg (by omega)]
theorem sum_iff {s : List UInt8} {n : Nat} (hn : s.length = n + 4) : (Vint.numS s n 4 : Int) = ((Crc.of (s.take n)).toNat : Int) ↔ s.drop n = Pt.sumB (s.take n) := by
  have h1 : s.drop n = Vint.fixL 4 (Vint.numS s n 4) := by
    rw [fix_num s n 4 (by omega), List.take_of_length_le]
    rw [List.length_drop]; omega
  have h2 := Vint.numS_lt s n 4
  have h3 := (Crc.of (s.take n)).isLt
  rw [h1]
  unfold Pt.sumB
  constructor
  · intro h
    rw [show Vint.numS s n 4 = (Crc.of (s.take n)).toNat by omega]
  · intro h
    have := fix_inj h2 (by omega : (Crc.of (s.take n)).toNat < 256 ^ 4) h
    omega
/-- What a number read leaves. -/
def RNumLeft (s : List UInt8) (a : Int) (wh : Bool) (g7 : Nat) (v : Value) (rs : List Res) : Prop :=
  v = .int .i64 (Pt.num s a wh).1 ∧ rs = [.cells g7 82 #[str s, .int .i64 (Pt.num s a wh).2.1, .bool (!(Pt.num s a wh).2.2)]]
set_option maxRecDepth 20000 in
set_option maxHeartbeats 1000000 in
theorem rpts_rnum (s : List UInt8) (hsl : s.length ≤ 9223372036854775807) (a : Int) (wh : Bool) (ha : -9223372036854775808 ≤ a ∧ a ≤ 9223372036854775807) (g7 : Nat) (w : World)
    (hs0 : Sat w [.cells g7 82 #[str s, .int .i64 a, .bool (!wh)], .anchor w [g7]]) :
    Does Try.prog 47 #[.pointer (some ⟨g7, 0, none⟩)] w fun v w' => ∃ rs, Sat w' (rs ++ [.anchor w [g7]]) ∧ RNumLeft s a wh g7 v rs := by
  refine does (args := [.pointer (some ⟨g7, 0, none⟩)]) Try.func47 rfl (by kernel_rfl) (by kernel_rfl) rfl ent_47 (hs0) ?_; intro QV hQ
  unfold RNumLeft at hQ
  unfold Pt.num at hQ
  simp -implicitDefEqProofs (disch := omega) only [go_sem]
  refine RDraw_seg (by kernel_rfl) (by kernel_rfl) 16 rfl ?_
  refine RS_det (by kernel_rfl) ?_
  repeat (first | refine ToO_step (fun Q hq => by (simp -implicitDefEqProofs (disch := omega) only [go_sem]; exact hq)) ?_ | refine ToO_guard (by (simp -implicitDefEqProofs only [go_sem]; first | done | fail)) (fun Q hq => by (simp -implicitDefEqProofs (disch := omega) only [go_sem]; exact hq)) ?_ | refine ToO_skip (.inl (by (simp -implicitDefEqProofs only [go_sem]; first | done | fail))) ?_ | refine ToO_skip (.inr (by (simp -implicitDefEqProofs only [go_sem]; first | done | fail))) ?_)
  first | refine ToO_step (fun Q hq => by (simp -implicitDefEqProofs (disch := omega) only [go_sem]; refine RCall_eq (ref_get s hsl a ha) ?_; simp -implicitDefEqProofs (disch := omega) only [go_sem]; exact hq)) ?_ | refine ToO_guard (by (simp -implicitDefEqProofs only [go_sem]; first | done | fail)) (fun Q hq => by (simp -implicitDefEqProofs (disch := omega) only [go_sem]; refine RCall_eq (ref_get s hsl a ha) ?_; simp -implicitDefEqProofs (disch := omega) only [go_sem]; exact hq)) ?_
  repeat (first | refine ToO_step (fun Q hq => by (simp -implicitDefEqProofs (disch := omega) only [go_sem]; exact hq)) ?_ | refine ToO_guard (by (simp -implicitDefEqProofs only [go_sem]; first | done | fail)) (fun Q hq => by (simp -implicitDefEqProofs (disch := omega) only [go_sem]; exact hq)) ?_ | refine ToO_skip (.inl (by (simp -implicitDefEqProofs only [go_sem]; first | done | fail))) ?_ | refine ToO_skip (.inr (by (simp -implicitDefEqProofs only [go_sem]; first | done | fail))) ?_)
  refine ToO_nil ?_
  generalize hg : Vint.get s a = g at *
  obtain ⟨n, to, e⟩ := g
  simp only [] at hQ
  cases wh with
  | false =>
    simp -implicitDefEqProofs (disch := omega) only [go_sem, Bool.not_false]
    exact hQ _ _ fun w' hs => ⟨_, hs, rfl, rfl⟩
  | true =>
    by_cases he : e = 0
    · rw [if_pos ⟨rfl, he⟩] at hQ
      simp -implicitDefEqProofs (disch := omega) only [go_sem, he, decide_true, Bool.not_true]
      exact hQ _ _ fun w' hs => ⟨_, hs, rfl, rfl⟩
    · rw [if_neg (fun h => he h.2)] at hQ
      simp -implicitDefEqProofs (disch := omega) only [go_sem, he, decide_false, Bool.not_true]
      exact hQ _ _ fun w' hs => ⟨_, hs, rfl, rfl⟩
set_option maxRecDepth 20000 in
set_option maxHeartbeats 4000000 in
theorem rpts_parse (s : List UInt8) (hsl : s.length ≤ 1000000) (w : World) : Does Try.prog 24 #[str s] w fun v w' => ∃ rs, Sat w' (rs ++ [.anchor w []]) ∧ ∃ v0, v = .tuple #[v0, .int .i64 (Pt.parse s).2] ∧ NewPts v0 rs (Pt.parse s).1 := by
  refine does (args := [str s]) Try.func24 rfl (by kernel_rfl) (by kernel_rfl) rfl ent_24 (Sat.start w []) ?_; intro QV hQ
  have hfail : ∀ e : Int, ∀ w' h, Sat w' h → Res.anchor w [] ∈ h → ∃ rs, Sat w' (rs ++ [.anchor w []]) ∧ ∃ v0, Value.tuple #[.slice none 0 0, .int .i64 e] = .tuple #[v0, .int .i64 e] ∧ NewPts v0 rs [] := fun e w' h hs hm =>
    ⟨_, Sat.own_nil (w := w') (h := [.anchor w []]) 46 5 ⟨hs.mem _ hm, fun k hk => hs.lt _ hm k hk, fun _ hx => absurd hx (by simp), trivial⟩, _, rfl, none, 0, rfl, Nat.le_refl _, rfl⟩
  by_cases h1 : s.length < 8
  · have g1 : (s.length : Int) < 8 := by omega
    have hp : Pt.parse s = ([], 2) := by unfold Pt.parse; rw [if_pos h1]
    rw [hp] at hQ
    simp -implicitDefEqProofs (disch := omega) only [go_sem, g1, decide_true]
    exact hQ _ _ fun w' hs => hfail 2 w' _ hs (by simp)
  have g1 : ¬ (s.length : Int) < 8 := by omega
  obtain ⟨n, hn⟩ : ∃ n, s.length = n + 4 := ⟨s.length - 4, by omega⟩
  have e1 : (s.length : Int) - 4 = (n : Int) := by omega
  have e2 : s.length - 4 = n := by omega
  by_cases h2 : s.take 4 = [82, 83, 84, 80]
  rotate_left
  · have hp : Pt.parse s = ([], 12) := by unfold Pt.parse; rw [if_neg h1, if_pos h2]
    rw [hp] at hQ
    simp -implicitDefEqProofs (disch := omega) only [go_sem, g1, h2, decide_false]
    exact hQ _ _ fun w' hs => hfail 12 w' _ hs (by simp)
  simp -implicitDefEqProofs (disch := omega) only [go_sem, g1, e1, h2, decide_true, decide_false]
  refine RCall_eq (ref_number s (by omega) (n : Int) 4 (by omega)) ?_
  rw [number_sum hn]
  have t1 : (s.take n).length = n := by rw [List.length_take]; omega
  simp -implicitDefEqProofs (disch := omega) only [go_sem, e1]
  refine RCall_eq (ref_of (s.take n) (by omega)) ?_
  have hlt := (Crc.of (s.take n)).isLt
  have hsi := sum_iff hn
  simp -implicitDefEqProofs (disch := omega) only [go_sem, e1]
  by_cases h3 : s.drop n = Pt.sumB (s.take n)
  rotate_left
  · have hp : Pt.parse s = ([], 5) := by unfold Pt.parse; rw [if_neg h1, if_neg (by simp [h2]), e2, if_pos h3]
    have q3 : decide ((Vint.numS s n 4 : Int) = ((Crc.of (s.take n)).toNat : Int)) = false := decide_eq_false fun h => h3 (hsi.1 h)
    rw [hp] at hQ
    simp -implicitDefEqProofs (disch := omega) only [go_sem, q3]
    exact hQ _ _ fun w' hs => hfail 5 w' _ hs (by simp)
  have q3 : decide ((Vint.numS s n 4 : Int) = ((Crc.of (s.take n)).toNat : Int)) = true := decide_eq_true (hsi.2 h3)
  have hp : Pt.parse s = match Pt.read (s.take n) with
      | none => ([], 4)
      | some l => if Pt.build l = (s, 0) then (l, 0) else ([], 4) := by unfold Pt.parse; rw [if_neg h1, if_neg (by simp [h2]), e2, if_neg (by simp [h3])]; cases Pt.read (s.take n) <;> rfl
  rw [hp] at hQ
  clear hp
  simp -implicitDefEqProofs (disch := omega) only [go_sem, q3, e1]
  obtain ⟨u, hu⟩ : ∃ u, u = s.take n := ⟨_, rfl⟩
  rw [← hu] at hQ t1 ⊢
  refine RNew_intro fun g7 hg7 => ?_
  simp -implicitDefEqProofs (disch := omega) only [go_sem]
  have hul : u.length ≤ 1000000 := by omega
  have hu4 : 4 ≤ u.length := by omega
  have hnum : ∀ (a : Int) (wh : Bool) (suf : List Res) (w1 : World), 0 ≤ a → a ≤ u.length → Sat w1 ([.cells g7 82 #[str u, .int .i64 a, .bool (!wh)]] ++ suf) →
      Does Try.prog 47 #[.pointer (some ⟨g7, 0, none⟩)] w1 fun v w' => ∃ rs, Sat w' (rs ++ [.anchor w1 [g7]]) ∧ RNumLeft u a wh g7 v rs := by
    intro a wh suf w1 h0 h1 hs
    exact rpts_rnum u (by omega) a wh (by omega) g7 w1 (hs.reanchors (by simp [Res.fp]))
  have hS : ∀ (a : Int) (wh : Bool), ∀ k ∈ [g7], ∃ r ∈ [Res.cells g7 82 #[str u, .int .i64 a, .bool (!wh)]], r.fp k := by simp [Res.fp]
  refine RCall_frame [.cells g7 82 #[str u, .int .i64 4, .bool (!true)]] [.anchor w []] [g7] (fun _ hs => hs) (hS 4 true) (fun w1 hs => hnum 4 true _ w1 (by omega) (by omega) hs) ?_
  rintro _ _ ⟨rfl, rfl⟩
  obtain ⟨k1, k2, k3, k4⟩ := Pt.num_in u 4 true (by omega) (by omega)
  have hrd : Pt.read u = if (Pt.num u 4 true).2.2 = true then Pt.rdPts u (Pt.num u 4 true).1.toNat (Pt.num u 4 true).2.1 [] else none := rfl
  have hz := @num_zero u 4 true
  generalize Pt.num u 4 true = x0 at *
  obtain ⟨m0, a0, wh0⟩ := x0
  simp only [] at k1 k2 k3 k4 hrd hz
  obtain ⟨m0, rfl⟩ : ∃ m : Nat, m0 = (m : Int) := ⟨m0.toNat, by omega⟩
  simp -implicitDefEqProofs (disch := omega) only [go_sem]
  refine RLoop_from (fun f h => ∃ (m n' : Nat) (a : Int) (wh : Bool) (acc : List Pt.P) (a' : Option Addr) (c' : Nat), (m : Int) ≤ 9223372036854775807 ∧ 0 ≤ a ∧ a ≤ u.length ∧ n' = acc.length ∧ (n' : Int) ≤ a ∧ n' ≤ c' ∧ ReadAt u m a wh acc ∧ f 0 = str s ∧ f 7 = .pointer (some ⟨g7, 0, none⟩) ∧ f 8 = .slice a' n' c' ∧ f 9 = .int .i64 (m : Int) ∧
    h = [Own 46 5 (.slice a' n' c') n' (acc.flatMap Pt.ptC), .cells g7 82 #[str u, .int .i64 a, .bool (!wh)], .anchor w []]) (fun f _ => (ival (f 9)).toNat) ?_ ?_
  · refine fun w1 hs => ⟨_, Sat.own_nil 46 5 hs, m0, 0, a0, wh0, [], none, 0, by omega, by omega, k4, rfl, by simp; omega, by omega, ?_, by (first | (simp -implicitDefEqProofs (disch := omega) only [go_sem]; done) | (simp -implicitDefEqProofs (disch := omega) only [go_sem]; rfl)), by (first | (simp -implicitDefEqProofs (disch := omega) only [go_sem]; done) | (simp -implicitDefEqProofs (disch := omega) only [go_sem]; rfl)), by (first | (simp -implicitDefEqProofs (disch := omega) only [go_sem]; done) | (simp -implicitDefEqProofs (disch := omega) only [go_sem]; rfl)), by (first | (simp -implicitDefEqProofs (disch := omega) only [go_sem]; done) | (simp -implicitDefEqProofs (disch := omega) only [go_sem]; rfl)), rfl⟩
    cases wh0 with
    | true => exact .inl ⟨rfl, by rw [hrd]; simp⟩
    | false => exact .inr ⟨rfl, by have := hz rfl; omega, rfl, by rw [hrd]; simp⟩
  clear k1 k2 k3 k4 hrd hz
  rintro f h ⟨m, n', a, wh, acc, a', c', hm63, ha0, ha1, hn', hna, hnc, hat, e0, e7, e8, e9, rfl⟩ Q' hQ'
  have hmi : ival (f 9) = (m : Int) := by rw [e9]; rfl
  by_cases hmz : m = 0
  · subst hmz
    have g0 : decide ((0 : Int) < ((0 : Nat) : Int)) = false := rfl
    subst hn'
    rcases hat with ⟨rfl, hre⟩ | ⟨rfl, _, rfl, hre⟩
    · have hre' : Pt.read u = some acc := by rw [← hre]; rfl
      rw [hre'] at hQ
      simp only [] at hQ
      obtain ⟨i1, i2⟩ := Pt.read_in (s := u) (by simp only [maxLen]; omega) hu4 hre'
      simp -implicitDefEqProofs (disch := omega) only [go_sem, e0, e7, e8, e9, g0]
      refine RCall_eqS (fun w1 hs => rpts_build acc a' c' (by omega) i1 w1 (own_pts (c := c') hs (by simp))) ?_
      generalize hb : Pt.build acc = be at *
      obtain ⟨bb, e⟩ := be
      have hend : ∀ w', Sat w' [Own 46 5 (.slice a' acc.length c') acc.length (acc.flatMap Pt.ptC), .cells g7 82 #[str u, .int .i64 a, .bool (!true)], .anchor w []] → ∃ rs, Sat w' (rs ++ [.anchor w []]) ∧ ∃ v0, Value.tuple #[.slice a' acc.length c', .int .i64 0] = .tuple #[v0, .int .i64 0] ∧ NewPts v0 rs acc := fun w' hs =>
        ⟨_, Sat.sub (h' := [Own 46 5 (.slice a' acc.length c') acc.length (acc.flatMap Pt.ptC)] ++ [.anchor w []]) (.cons_cons _ (.cons _ (List.Sublist.refl _))) hs, _, rfl, a', c', rfl, hnc, rfl⟩
      by_cases he : e = 0
      · by_cases hbs : bb = s
        · rw [if_pos (by rw [he, hbs])] at hQ
          simp -implicitDefEqProofs (disch := omega) only [go_sem, e0, e7, e8, e9, he, hbs, decide_true, Bool.not_true]
          exact hQ _ _ fun w' hs => hend w' hs
        · rw [if_neg (fun h => hbs (Prod.mk.inj h).1)] at hQ
          simp -implicitDefEqProofs (disch := omega) only [go_sem, e0, e7, e8, e9, he, hbs, decide_true, decide_false, Bool.not_true]
          exact hQ _ _ fun w' hs => hfail 4 w' _ hs (by simp)
      · rw [if_neg (fun h => he (Prod.mk.inj h).2)] at hQ
        simp -implicitDefEqProofs (disch := omega) only [go_sem, e0, e7, e8, e9, he, decide_false, Bool.not_true]
        exact hQ _ _ fun w' hs => hfail 4 w' _ hs (by simp)
    · rw [hre] at hQ
      simp -implicitDefEqProofs (disch := omega) only [go_sem, e0, e7, e8, e9, g0]
      refine RCall_eqS (u := .tuple #[str [], .int .i64 4]) (fun w1 hs => ?_) ?_
      · have := rpts_build [] a' c' (by decide) (by simp) w1 (Rd.nil _ _ _ _)
        rw [kbuild0] at this
        exact this
      simp -implicitDefEqProofs (disch := omega) only [go_sem, e0, e7, e8, e9, Bool.not_false]
      exact hQ _ _ fun w' hs => hfail 4 w' _ hs (by simp)
  have g0 : decide ((0 : Int) < (m : Int)) = true := decide_eq_true (by omega)
  obtain ⟨hwh, hrd⟩ : wh = true ∧ Pt.rdPts u m a acc = Pt.read u := hat.resolve_right (fun h => hmz h.2.1)
  subst hwh
  clear hat
  obtain ⟨m, rfl⟩ : ∃ k, m = k + 1 := ⟨m - 1, by omega⟩
  have hm1 : ((m + 1 : Nat) : Int) - 1 = (m : Int) := by omega
  simp -implicitDefEqProofs (disch := omega) only [go_sem, e0, e7, e8, e9, g0, Bool.not_true, Bool.not_false]
  refine RCall_frame [.cells g7 82 #[str u, .int .i64 a, .bool (!true)]] [Own 46 5 (.slice a' n' c') n' (acc.flatMap Pt.ptC), .anchor w []] [g7] (fun _ hs => Sat.swap2 hs) (hS a true) (fun w1 hs => hnum a true _ w1 ha0 ha1 hs) ?_
  rintro _ _ ⟨rfl, rfl⟩
  have x1 := Pt.num_in u a true ha0 ha1
  have x2 := Pt.num2_in u a ha0 ha1
  have x3 := Pt.num3_in u a ha0 ha1
  have x4 := Pt.num4_in u a ha0 ha1
  have y2 : Pt.num2 u a = Pt.num u (Pt.num u a true).2.1 (Pt.num u a true).2.2 := rfl
  have y3 : Pt.num3 u a = Pt.num u (Pt.num2 u a).2.1 (Pt.num2 u a).2.2 := rfl
  have y4 : Pt.num4 u a = Pt.num u (Pt.num3 u a).2.1 (Pt.num3 u a).2.2 := rfl
  have hrp : Pt.rdPt u a = if (Pt.num4 u a).2.2 = true ∧ (Vint.next u (Pt.num4 u a).2.1).2.2 = 0 then some (⟨(Pt.num u a true).1, (Pt.num2 u a).1, (Pt.num3 u a).1, (Pt.num4 u a).1, (Vint.next u (Pt.num4 u a).2.1).1⟩, (Vint.next u (Pt.num4 u a).2.1).2.1) else none := rfl
  have hin := fun p a2 => Pt.rdPt_in (s := u) (a := a) (p := p) (a' := a2) ha0 ha1 (by simp only [maxLen]; omega)
  obtain ⟨v1, a1, w1, z1⟩ : ∃ v1 a1 w1, Pt.num u a true = (v1, a1, w1) := ⟨_, _, _, rfl⟩
  obtain ⟨v2, a2, w2, z2⟩ : ∃ v1 a1 w1, Pt.num2 u a = (v1, a1, w1) := ⟨_, _, _, rfl⟩
  obtain ⟨v3, a3, w3, z3⟩ : ∃ v1 a1 w1, Pt.num3 u a = (v1, a1, w1) := ⟨_, _, _, rfl⟩
  obtain ⟨v4, a4, w4, z4⟩ : ∃ v1 a1 w1, Pt.num4 u a = (v1, a1, w1) := ⟨_, _, _, rfl⟩
  rw [z1] at x1 y2 hrp ⊢
  rw [z2] at x2 y2 y3 hrp
  rw [z3] at x3 y3 y4 hrp
  rw [z4] at x4 y4 hrp
  simp only [] at x1 x2 x3 x4 y2 y3 y4 hrp
  simp -implicitDefEqProofs (disch := omega) only [go_sem]
  refine RNew_intro fun gp hgp => ?_
  have q7 : g7 ≠ gp := Nat.ne_of_lt hgp.1
  simp -implicitDefEqProofs (disch := omega) only [go_sem, e0, e7, e8, e9]
  refine RCall_frame [.cells g7 82 #[str u, .int .i64 a1, .bool (!w1)]] [.cells gp 46 #[.int .i64 v1, .int .i64 0, .int .i64 0, .int .i64 0, str []], Own 46 5 (.slice a' n' c') n' (acc.flatMap Pt.ptC), .anchor w []] [g7] (fun _ hs => Sat.swap2 hs) (hS a1 w1) (fun w' hs => hnum a1 w1 _ w' (by omega) (by omega) hs) ?_
  rintro _ _ ⟨rfl, rfl⟩
  rw [← y2]
  simp -implicitDefEqProofs (disch := omega) only [go_sem, e0, e7, e8, e9, q7]
  refine RCall_frame [.cells g7 82 #[str u, .int .i64 a2, .bool (!w2)]] [.cells gp 46 #[.int .i64 v1, .int .i64 v2, .int .i64 0, .int .i64 0, str []], Own 46 5 (.slice a' n' c') n' (acc.flatMap Pt.ptC), .anchor w []] [g7] (fun _ hs => hs) (hS a2 w2) (fun w' hs => hnum a2 w2 _ w' (by omega) (by omega) hs) ?_
  rintro _ _ ⟨rfl, rfl⟩
  rw [← y3]
  simp -implicitDefEqProofs (disch := omega) only [go_sem, e0, e7, e8, e9, q7]
  refine RCall_frame [.cells g7 82 #[str u, .int .i64 a3, .bool (!w3)]] [.cells gp 46 #[.int .i64 v1, .int .i64 v2, .int .i64 v3, .int .i64 0, str []], Own 46 5 (.slice a' n' c') n' (acc.flatMap Pt.ptC), .anchor w []] [g7] (fun _ hs => hs) (hS a3 w3) (fun w' hs => hnum a3 w3 _ w' (by omega) (by omega) hs) ?_
  rintro _ _ ⟨rfl, rfl⟩
  rw [← y4]
  simp -implicitDefEqProofs (disch := omega) only [go_sem, e0, e7, e8, e9, q7]
  refine RDraw_seg (by kernel_rfl) (by kernel_rfl) 16 rfl ?_
  refine RS_det (by kernel_rfl) ?_
  repeat (first | refine ToO_step (fun Q hq => by (simp -implicitDefEqProofs (disch := omega) only [go_sem, e0, e7, e8, e9, q7]; exact hq)) ?_ | refine ToO_guard (by (simp -implicitDefEqProofs only [go_sem, e0, e7, e8, e9, q7]; first | done | fail)) (fun Q hq => by (simp -implicitDefEqProofs (disch := omega) only [go_sem, e0, e7, e8, e9, q7]; exact hq)) ?_ | refine ToO_skip (.inl (by (simp -implicitDefEqProofs only [go_sem, e0, e7, e8, e9, q7]; first | done | fail))) ?_ | refine ToO_skip (.inr (by (simp -implicitDefEqProofs only [go_sem, e0, e7, e8, e9, q7]; first | done | fail))) ?_)
  first | refine ToO_step (fun Q hq => by (simp -implicitDefEqProofs (disch := omega) only [go_sem, e0, e7, e8, e9, q7]; refine RCall_eq (ref_next u (by omega) a4 (by omega)) ?_; simp -implicitDefEqProofs (disch := omega) only [go_sem, e0, e7, e8, e9, q7]; exact hq)) ?_ | refine ToO_guard (by (simp -implicitDefEqProofs only [go_sem, e0, e7, e8, e9, q7]; first | done | fail)) (fun Q hq => by (simp -implicitDefEqProofs (disch := omega) only [go_sem, e0, e7, e8, e9, q7]; refine RCall_eq (ref_next u (by omega) a4 (by omega)) ?_; simp -implicitDefEqProofs (disch := omega) only [go_sem, e0, e7, e8, e9, q7]; exact hq)) ?_
  repeat (first | refine ToO_step (fun Q hq => by (simp -implicitDefEqProofs (disch := omega) only [go_sem, e0, e7, e8, e9, q7]; exact hq)) ?_ | refine ToO_guard (by (simp -implicitDefEqProofs only [go_sem, e0, e7, e8, e9, q7]; first | done | fail)) (fun Q hq => by (simp -implicitDefEqProofs (disch := omega) only [go_sem, e0, e7, e8, e9, q7]; exact hq)) ?_ | refine ToO_skip (.inl (by (simp -implicitDefEqProofs only [go_sem, e0, e7, e8, e9, q7]; first | done | fail))) ?_ | refine ToO_skip (.inr (by (simp -implicitDefEqProofs only [go_sem, e0, e7, e8, e9, q7]; first | done | fail))) ?_)
  refine ToO_nil ?_
  generalize hnx : Vint.next u a4 = nx at *
  obtain ⟨tx, ta, te⟩ := nx
  simp only [] at hrp
  by_cases hok : w4 = true ∧ te = 0
  rotate_left
  · rw [if_neg hok] at hrp
    have hnone : Pt.read u = none := by rw [← hrd, Pt.rdPts, hrp]
    rw [hnone] at hQ
    have hd : w4 = false ∨ (w4 = true ∧ decide (te = 0) = false) := by
      cases w4 with
      | false => exact .inl rfl
      | true => exact .inr ⟨rfl, decide_eq_false fun h => hok ⟨rfl, h⟩⟩
    rcases hd with rfl | ⟨rfl, hd⟩
    · simp -implicitDefEqProofs (disch := omega) only [go_sem, e0, e7, e8, e9, q7, Bool.not_false]
      exact hQ _ _ fun w' hs => hfail 4 w' _ hs (by simp)
    · simp -implicitDefEqProofs (disch := omega) only [go_sem, e0, e7, e8, e9, q7, hd, Bool.not_true, Bool.not_false]
      exact hQ _ _ fun w' hs => hfail 4 w' _ hs (by simp)
  obtain ⟨rfl, rfl⟩ := hok
  rw [if_pos ⟨rfl, rfl⟩] at hrp
  obtain ⟨hpin, hta1, hta2⟩ := hin _ _ hrp
  have hrd' : Pt.rdPts u m ta (acc ++ [⟨v1, v2, v3, v4, tx⟩]) = Pt.read u := by rw [← hrd, Pt.rdPts, hrp]
  have hpc := ptC_one ⟨v1, v2, v3, v4, tx⟩
  have hpz := ptC_snoc acc ⟨v1, v2, v3, v4, tx⟩
  simp -implicitDefEqProofs (disch := omega) only [go_sem, e0, e7, e8, e9, q7, decide_true, Bool.not_true, Bool.not_false]
  refine RRun_build1z (cs := [.int .i64 v1, .int .i64 v2, .int .i64 v3, .int .i64 v4, str tx]) pts_sl rfl (by omega) fun gn hgn => ?_
  simp -implicitDefEqProofs (disch := omega) only [go_sem, e0, e7, e8, e9]
  refine RRun_append_cells (n := n') (xs := acc.flatMap Pt.ptC) (h' := [.cells g7 82 #[str u, .int .i64 ta, .bool (!true)], .anchor w []]) pts_sl (fun _ hs => Sat.swap2 (Sat.sub (.cons _ (.cons_cons _ (.cons _ (List.Sublist.refl _)))) hs)) rfl hpc (by omega) (by simp only [maxLen]; omega) fun a'' c'' hc'' => ?_
  simp -implicitDefEqProofs (disch := omega) only [go_sem, e0, e7, e8, e9]
  refine hQ' _ _ fun w1 hs => ⟨_, hs, ⟨m, n' + 1, ta, true, acc ++ [⟨v1, v2, v3, v4, tx⟩], a'', c'', by omega, by omega, hta2, by simp [hn'], by omega, hc'', .inl ⟨rfl, hrd'⟩, ?_, ?_, ?_, ?_, by rw [hpz]; rfl⟩, ?_⟩
  · (first | (simp -implicitDefEqProofs (disch := omega) only [go_sem, e0, e7, e8, e9]; done) | (simp -implicitDefEqProofs (disch := omega) only [go_sem, e0, e7, e8, e9]; rfl))
  · (first | (simp -implicitDefEqProofs (disch := omega) only [go_sem, e0, e7, e8, e9]; done) | (simp -implicitDefEqProofs (disch := omega) only [go_sem, e0, e7, e8, e9]; rfl))
  · (first | (simp -implicitDefEqProofs (disch := omega) only [go_sem, e0, e7, e8, e9]; done) | (simp -implicitDefEqProofs (disch := omega) only [go_sem, e0, e7, e8, e9]; rfl))
  · (first | (simp -implicitDefEqProofs (disch := omega) only [go_sem, e0, e7, e8, e9, hm1]; done) | (simp -implicitDefEqProofs (disch := omega) only [go_sem, e0, e7, e8, e9, hm1]; rfl))
  · simp -implicitDefEqProofs (disch := omega) only [go_sem, e0, e7, e8, e9, hmi, hm1]; omega
end Go.Proofs.Ytjcchmlideknpaa
