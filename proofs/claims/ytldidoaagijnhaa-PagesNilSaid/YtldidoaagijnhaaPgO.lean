/- pages' reference: the walk: a file opened. -/
import Derived.Test.YtldidoaagijnhaaPgR
import Derived.Test.YtldidoaagijnhaaPgN
namespace Go.Proofs.Ytldidoaagijnhaa
set_option linter.unusedSimpArgs false
set_option linter.unusedVariables false
open H
/-- What the reference's Open hands back. -/
def Pg.ROpened (s : List UInt8) (v : Value) (rs : List Res) : Prop := ∃ g hd pv nv rest, v = .tuple #[.pointer (some ⟨g, 0, none⟩), .int .i64 (Pg.opn s).2] ∧ rs = .cells g 39 #[str hd, pv, nv] :: rest ∧ ((Pg.opn s).2 = 0 → hd = (Pg.opn s).1)
theorem Pg.ropened_no {s : List UInt8} {e : Int} (h : Pg.opn s = ([], e)) (he : e ≠ 0) (g : Nat) (rest : List Res) (u v x : Value) (hx : x = .tuple #[.pointer (some ⟨g, 0, none⟩), .int .i64 e]) : Pg.ROpened s x (.cells g 39 #[str [], u, v] :: rest) :=
  ⟨g, [], u, v, rest, by rw [h, hx], rfl, fun h0 => absurd h0 (by rw [h]; exact he)⟩
set_option maxRecDepth 20000 in
set_option maxHeartbeats 8000000 in
theorem pages_ropen (s : List UInt8) (hsm : s.length ≤ 1000000000) (w : World) : Does Try.prog 19 #[str s] w fun v w' => ∃ rs, Sat w' (rs ++ [.anchor w []]) ∧ Pg.ROpened s v rs := by
  refine does (args := [str s]) Try.func19 rfl (by kernel_rfl) (by kernel_rfl) rfl ent_19 (Sat.start w []) ?_; intro QV hQ
  have hO : Pg.opn s = (if s.length < 256 then ([], 2) else if s.length % 256 ≠ 0 then ([], 4) else if 65536 < s.length / 256 then ([], 3) else if (s.drop 252).take 4 ≠ Pg.sumB (s.take 252) then ([], 5) else if s.take 4 ≠ [80, 71, 70, 76] then ([], 12) else if Vint.numS s 4 4 ≠ s.length / 256 then ([], 6) else
    match Pg.headed s with
    | none => ([], 4)
    | some h => (h, 0) : List UInt8 × Int) := rfl
  by_cases h1 : s.length < 256
  · rw [if_pos h1] at hO
    have k1 : decide ((s.length : Int) < 256) = true := decide_eq_true (by omega)
    simp -implicitDefEqProofs (disch := omega) only [go_sem, k1]
    refine RNew_intro fun g hg => ?_
    simp -implicitDefEqProofs (disch := omega) only [go_sem]
    exact hQ _ _ fun w' hs => ⟨[_], hs, Pg.ropened_no hO (by decide) g [] _ _ _ rfl⟩
  rw [if_neg h1] at hO
  have k1 : decide ((s.length : Int) < 256) = false := decide_eq_false (by omega)
  obtain ⟨r, hr⟩ : ∃ r, r = s.length % 256 := ⟨_, rfl⟩
  have hrem : (s.length : Int).tmod 256 = (r : Int) := by rw [Int.tmod_eq_emod_of_nonneg (by omega), hr]; omega
  obtain ⟨q, hq⟩ : ∃ q, q = s.length / 256 := ⟨_, rfl⟩
  have hquo : (s.length : Int).tdiv 256 = (q : Int) := by rw [Int.tdiv_eq_ediv_of_nonneg (by omega), hq]; rfl
  rw [← hr, ← hq] at hO
  by_cases h2 : r = 0
  rotate_left
  · rw [if_pos h2] at hO
    have k2 : decide ((r : Int) = 0) = false := decide_eq_false (by omega)
    simp -implicitDefEqProofs (disch := omega) only [go_sem, k1, hrem, k2]
    refine RNew_intro fun g hg => ?_
    simp -implicitDefEqProofs (disch := omega) only [go_sem]
    exact hQ _ _ fun w' hs => ⟨[_], hs, Pg.ropened_no hO (by decide) g [] _ _ _ rfl⟩
  rw [if_neg (by simpa using h2)] at hO
  have k2 : decide ((r : Int) = 0) = true := decide_eq_true (by omega)
  by_cases h3 : 65536 < q
  · rw [if_pos h3] at hO
    have k3 : decide ((65536 : Int) < (q : Int)) = true := decide_eq_true (by omega)
    simp -implicitDefEqProofs (disch := omega) only [go_sem, k1, hrem, k2, hquo, k3]
    refine RNew_intro fun g hg => ?_
    simp -implicitDefEqProofs (disch := omega) only [go_sem]
    exact hQ _ _ fun w' hs => ⟨[_], hs, Pg.ropened_no hO (by decide) g [] _ _ _ rfl⟩
  rw [if_neg h3] at hO
  have k3 : decide ((65536 : Int) < (q : Int)) = false := decide_eq_false (by omega)
  have l1 : (s.take 252).length = 252 := by rw [List.length_take]; omega
  simp -implicitDefEqProofs (disch := omega) only [go_sem, k1, hrem, k2, hquo, k3]
  refine RDraw_to 6 (by kernel_rfl) (by kernel_rfl) (by kernel_rfl) ?_
  repeat (first | refine Tr_step (fun Q hq => by (simp -implicitDefEqProofs (disch := omega) only [go_sem, Int.reduceToNat, Nat.reduceSub]; exact hq)) ?_ | refine Tr_guard (by (simp -implicitDefEqProofs only [go_sem, Int.reduceToNat, Nat.reduceSub]; first | done | fail)) (fun Q hq => by (simp -implicitDefEqProofs (disch := omega) only [go_sem, Int.reduceToNat, Nat.reduceSub]; exact hq)) ?_ | refine Tr_skip (.inl (by (simp -implicitDefEqProofs only [go_sem, Int.reduceToNat, Nat.reduceSub]; first | done | fail))) ?_ | refine Tr_skip (.inr (by (simp -implicitDefEqProofs only [go_sem, Int.reduceToNat, Nat.reduceSub]; first | done | fail))) ?_)
  first | refine Tr_step (fun Q hq => by (simp -implicitDefEqProofs (disch := omega) only [go_sem, Int.reduceToNat]; refine RCall_eq (pages_rsum (s.take 252) (by omega)) ?_; simp -implicitDefEqProofs (disch := omega) only [go_sem, Int.reduceToNat]; exact hq)) ?_ | refine Tr_guard (by (simp -implicitDefEqProofs only [go_sem, Int.reduceToNat]; first | done | fail)) (fun Q hq => by (simp -implicitDefEqProofs (disch := omega) only [go_sem, Int.reduceToNat]; refine RCall_eq (pages_rsum (s.take 252) (by omega)) ?_; simp -implicitDefEqProofs (disch := omega) only [go_sem, Int.reduceToNat]; exact hq)) ?_
  repeat (first | refine Tr_step (fun Q hq => by (simp -implicitDefEqProofs (disch := omega) only [go_sem]; exact hq)) ?_ | refine Tr_guard (by (simp -implicitDefEqProofs only [go_sem]; first | done | fail)) (fun Q hq => by (simp -implicitDefEqProofs (disch := omega) only [go_sem]; exact hq)) ?_ | refine Tr_skip (.inl (by (simp -implicitDefEqProofs only [go_sem]; first | done | fail))) ?_ | refine Tr_skip (.inr (by (simp -implicitDefEqProofs only [go_sem]; first | done | fail))) ?_)
  refine To_nil ?_
  by_cases h4 : (s.drop 252).take 4 = Pg.sumB (s.take 252)
  rotate_left
  · rw [if_pos h4] at hO
    simp -implicitDefEqProofs (disch := omega) only [go_sem, decide_eq_false h4]
    refine RNew_intro fun g hg => ?_
    simp -implicitDefEqProofs (disch := omega) only [go_sem]
    exact hQ _ _ fun w' hs => ⟨[_], hs, Pg.ropened_no hO (by decide) g [] _ _ _ rfl⟩
  rw [if_neg (by simpa using h4)] at hO
  by_cases h5 : s.take 4 = [80, 71, 70, 76]
  rotate_left
  · rw [if_pos h5] at hO
    simp -implicitDefEqProofs (disch := omega) only [go_sem, decide_eq_true h4, Int.reduceToNat, decide_eq_false h5]
    refine RNew_intro fun g hg => ?_
    simp -implicitDefEqProofs (disch := omega) only [go_sem]
    exact hQ _ _ fun w' hs => ⟨[_], hs, Pg.ropened_no hO (by decide) g [] _ _ _ rfl⟩
  rw [if_neg (by simpa using h5)] at hO
  simp -implicitDefEqProofs (disch := omega) only [go_sem, decide_eq_true h4, Int.reduceToNat, decide_eq_true h5]
  refine RCall_eq (ref_number s (by omega) 4 4 (by omega)) ?_
  rw [number4 s (by omega)]
  by_cases h6 : Vint.numS s 4 4 = q
  rotate_left
  · rw [if_pos h6] at hO
    have k6 : decide ((Vint.numS s 4 4 : Int) = (q : Int)) = false := decide_eq_false (by omega)
    simp -implicitDefEqProofs (disch := omega) only [go_sem, hquo, k6]
    refine RNew_intro fun g hg => ?_
    simp -implicitDefEqProofs (disch := omega) only [go_sem]
    exact hQ _ _ fun w' hs => ⟨[_], hs, Pg.ropened_no hO (by decide) g [] _ _ _ rfl⟩
  rw [if_neg (by simpa using h6)] at hO
  have k6 : decide ((Vint.numS s 4 4 : Int) = (q : Int)) = true := decide_eq_true (by omega)
  have hfst := fun he hh => Pg.headed_first (s := s) (q := q) (by omega) h5 h6 h4 he hh
  have hhd : Pg.headed s = if (Vint.next (s.take 252) 8).2.2 = 0 ∧ (Vint.next (s.take 252) 8).1.length ≤ 200 ∧ Pg.allz ((s.take 252).drop (Vint.next (s.take 252) 8).2.1.toNat) = true then some (Vint.next (s.take 252) 8).1 else none := rfl
  simp -implicitDefEqProofs (disch := omega) only [go_sem, hquo, k6, Int.reduceToNat]
  refine RCall_eq (ref_next (s.take 252) (by omega) 8 (by omega)) ?_
  rw [h6]
  generalize Vint.next (s.take 252) 8 = nx at *
  obtain ⟨hd, to, e⟩ := nx
  simp only at hfst hhd
  simp -implicitDefEqProofs (disch := omega) only [go_sem]
  refine RNew_intro fun g hg => ?_
  simp only [below_cons, below_nil, under_anchor, and_true] at hg
  simp -implicitDefEqProofs (disch := omega) only [go_sem]
  refine RLoop_from (fun f h => ∃ (j : Nat) (a : Option Addr) (c : Nat) (xs : List Value), j + 1 ≤ q ∧ f 0 = str s ∧ f 4 = .int .i64 (q : Int) ∧ f 6 = str hd ∧ f 8 = .int .i64 e ∧ f 9 = .pointer (some ⟨g, 0, none⟩) ∧ f 10 = .int .i64 ((j + 1 : Nat) : Int) ∧
    h = [Own 9 1 (.slice a j c) j xs, .cells g 39 #[str hd, .slice a j c, .int .i64 0], .anchor w []]) (fun f _ => (q - ival (f 10)).toNat) ?_ ?_
  · exact fun w1 hs => ⟨_, hs.own_nil 9 1, 0, none, 0, [], by omega, by (first | (simp -implicitDefEqProofs (disch := omega) only [go_sem]; done) | (simp -implicitDefEqProofs (disch := omega) only [go_sem]; rfl)), by (first | (simp -implicitDefEqProofs (disch := omega) only [go_sem]; done) | (simp -implicitDefEqProofs (disch := omega) only [go_sem]; rfl)), by (first | (simp -implicitDefEqProofs (disch := omega) only [go_sem]; done) | (simp -implicitDefEqProofs (disch := omega) only [go_sem]; rfl)), by (first | (simp -implicitDefEqProofs (disch := omega) only [go_sem]; done) | (simp -implicitDefEqProofs (disch := omega) only [go_sem]; rfl)), by (first | (simp -implicitDefEqProofs (disch := omega) only [go_sem]; done) | (simp -implicitDefEqProofs (disch := omega) only [go_sem]; rfl)), by (first | (simp -implicitDefEqProofs (disch := omega) only [go_sem]; done) | (simp -implicitDefEqProofs (disch := omega) only [go_sem]; rfl)), rfl⟩
  rintro f h ⟨j, a, c, xs, hj, e0, e4, e6, e8, e9, e10, rfl⟩ Q' hQ'
  by_cases hlt : j + 1 < q
  · have g1 : decide (((j + 1 : Nat) : Int) < (q : Int)) = true := decide_eq_true (by omega)
    have hm10 : ival (f 10) = ((j + 1 : Nat) : Int) := by rw [e10]; rfl
    obtain ⟨lo, hlo⟩ : ∃ lo, lo = 256 * (j + 1) := ⟨_, rfl⟩
    have m1 : (256 : Int) * ((j + 1 : Nat) : Int) = (lo : Int) := by omega
    have m2 : (lo : Int) + 256 = ((lo + 256 : Nat) : Int) := by omega
    simp -implicitDefEqProofs (disch := omega) only [go_sem, e0, e4, e6, e8, e9, e10, g1]
    refine RDraw_seg (by kernel_rfl) (by kernel_rfl) 17 rfl ?_
    refine RS_cutR [0, 1, 2, 3, 5, 6, 7, 8, 9, 10, 11, 14, 15] [4, 12, 13, 16] (by decide +kernel) ?_
    refine RS_det (by kernel_rfl) ?_
    repeat (first | refine ToO_step (fun Q hq => by (simp -implicitDefEqProofs (disch := omega) only [go_sem, e0, e4, e6, e8, e9, e10, m1, m2]; exact hq)) ?_ | refine ToO_guard (by (simp -implicitDefEqProofs only [go_sem, e0, e4, e6, e8, e9, e10, m1, m2]; first | done | fail)) (fun Q hq => by (simp -implicitDefEqProofs (disch := omega) only [go_sem, e0, e4, e6, e8, e9, e10, m1, m2]; exact hq)) ?_ | refine ToO_skip (.inl (by (simp -implicitDefEqProofs only [go_sem, e0, e4, e6, e8, e9, e10, m1, m2]; first | done | fail))) ?_ | refine ToO_skip (.inr (by (simp -implicitDefEqProofs only [go_sem, e0, e4, e6, e8, e9, e10, m1, m2]; first | done | fail))) ?_)
    refine ToO_nil ?_
    refine RS_via [13, 16] (fun f h => ∃ g1 x, g < g1 ∧ f 0 = str s ∧ f 4 = .int .i64 (q : Int) ∧ f 6 = str hd ∧ f 8 = .int .i64 e ∧ f 9 = .pointer (some ⟨g, 0, none⟩) ∧ f 10 = .int .i64 ((j + 1 : Nat) : Int) ∧ f 72 = .slice a j c ∧ f 80 = .slice (some ⟨g1, 0, none⟩) 1 1 ∧ f 83 = .pointer (some ⟨g, 1, none⟩) ∧
      h = [.cells g1 9 #[str x], Own 9 1 (.slice a j c) j xs, .cells g 39 #[str hd, .slice a j c, .int .i64 0], .anchor w []]) (fun K' hI => ?_) ?_
    · refine RS_first [4, 12] (by kernel_rfl) ⟨?_, ?_, trivial⟩
      · simp -implicitDefEqProofs (disch := omega) only [go_sem, e0, e4, e6, e8, e9, e10]
        refine RS_first (L := [12, 13, 16]) [12] (by kernel_rfl) ⟨?_, trivial⟩
        simp -implicitDefEqProofs (disch := omega) only [go_sem]
        refine RRun_build1 str_sl rfl fun g1 hg1 => ?_
        simp -implicitDefEqProofs (disch := omega) only [go_sem]
        exact hI _ _ ⟨g1, _, hg1.2.1, by (first | (simp -implicitDefEqProofs (disch := omega) only [go_sem, e0, e4, e6, e8, e9, e10]; done) | (simp -implicitDefEqProofs (disch := omega) only [go_sem, e0, e4, e6, e8, e9, e10]; rfl)), by (first | (simp -implicitDefEqProofs (disch := omega) only [go_sem, e0, e4, e6, e8, e9, e10]; done) | (simp -implicitDefEqProofs (disch := omega) only [go_sem, e0, e4, e6, e8, e9, e10]; rfl)), by (first | (simp -implicitDefEqProofs (disch := omega) only [go_sem, e0, e4, e6, e8, e9, e10]; done) | (simp -implicitDefEqProofs (disch := omega) only [go_sem, e0, e4, e6, e8, e9, e10]; rfl)), by (first | (simp -implicitDefEqProofs (disch := omega) only [go_sem, e0, e4, e6, e8, e9, e10]; done) | (simp -implicitDefEqProofs (disch := omega) only [go_sem, e0, e4, e6, e8, e9, e10]; rfl)), by (first | (simp -implicitDefEqProofs (disch := omega) only [go_sem, e0, e4, e6, e8, e9, e10]; done) | (simp -implicitDefEqProofs (disch := omega) only [go_sem, e0, e4, e6, e8, e9, e10]; rfl)), by (first | (simp -implicitDefEqProofs (disch := omega) only [go_sem, e0, e4, e6, e8, e9, e10]; done) | (simp -implicitDefEqProofs (disch := omega) only [go_sem, e0, e4, e6, e8, e9, e10]; rfl)), by (first | (simp -implicitDefEqProofs (disch := omega) only [go_sem]; done) | (simp -implicitDefEqProofs (disch := omega) only [go_sem]; rfl)), by (first | (simp -implicitDefEqProofs (disch := omega) only [go_sem]; done) | (simp -implicitDefEqProofs (disch := omega) only [go_sem]; rfl)), by (first | (simp -implicitDefEqProofs (disch := omega) only [go_sem]; done) | (simp -implicitDefEqProofs (disch := omega) only [go_sem]; rfl)), rfl⟩
      · simp -implicitDefEqProofs (disch := omega) only [go_sem, e0, e4, e6, e8, e9, e10]
        refine RRun_build1 str_sl rfl fun g1 hg1 => ?_
        have ng : g ≠ g1 := Nat.ne_of_lt hg1.2.1
        simp -implicitDefEqProofs (disch := omega) only [go_sem]
        refine RS_first (L := [4, 13, 16]) [4] (by kernel_rfl) ⟨?_, trivial⟩
        simp -implicitDefEqProofs (disch := omega) only [go_sem, e0, e4, e6, e8, e9, e10]
        exact hI _ _ ⟨g1, _, hg1.2.1, by (first | (simp -implicitDefEqProofs (disch := omega) only [go_sem, e0, e4, e6, e8, e9, e10]; done) | (simp -implicitDefEqProofs (disch := omega) only [go_sem, e0, e4, e6, e8, e9, e10]; rfl)), by (first | (simp -implicitDefEqProofs (disch := omega) only [go_sem, e0, e4, e6, e8, e9, e10]; done) | (simp -implicitDefEqProofs (disch := omega) only [go_sem, e0, e4, e6, e8, e9, e10]; rfl)), by (first | (simp -implicitDefEqProofs (disch := omega) only [go_sem, e0, e4, e6, e8, e9, e10]; done) | (simp -implicitDefEqProofs (disch := omega) only [go_sem, e0, e4, e6, e8, e9, e10]; rfl)), by (first | (simp -implicitDefEqProofs (disch := omega) only [go_sem, e0, e4, e6, e8, e9, e10]; done) | (simp -implicitDefEqProofs (disch := omega) only [go_sem, e0, e4, e6, e8, e9, e10]; rfl)), by (first | (simp -implicitDefEqProofs (disch := omega) only [go_sem, e0, e4, e6, e8, e9, e10]; done) | (simp -implicitDefEqProofs (disch := omega) only [go_sem, e0, e4, e6, e8, e9, e10]; rfl)), by (first | (simp -implicitDefEqProofs (disch := omega) only [go_sem, e0, e4, e6, e8, e9, e10]; done) | (simp -implicitDefEqProofs (disch := omega) only [go_sem, e0, e4, e6, e8, e9, e10]; rfl)), by (first | (simp -implicitDefEqProofs (disch := omega) only [go_sem]; done) | (simp -implicitDefEqProofs (disch := omega) only [go_sem]; rfl)), by (first | (simp -implicitDefEqProofs (disch := omega) only [go_sem]; done) | (simp -implicitDefEqProofs (disch := omega) only [go_sem]; rfl)), by (first | (simp -implicitDefEqProofs (disch := omega) only [go_sem]; done) | (simp -implicitDefEqProofs (disch := omega) only [go_sem]; rfl)), rfl⟩
    rintro f h ⟨g1, x, hg1, e0, e4, e6, e8, e9, e10, e72, e80, e83, rfl⟩
    have ng : g ≠ g1 := Nat.ne_of_lt hg1
    refine RS_text (by kernel_rfl) ?_
    simp -implicitDefEqProofs (disch := omega) only [go_sem, e72, e80, e83]
    refine RRun_append_cells (n := j) (xs := xs) (m := 1) str_sl (fun _ hs => hs.2.2.2) (by simp) (fun u hu => by simp at hu; subst hu; rfl) (by omega) (by simp only [maxLen]; omega) fun a' c' hc' => ?_
    simp -implicitDefEqProofs (disch := omega) only [go_sem, e83, e0, e4, e6, e8, e9, e10]
    refine hQ' _ _ fun w1 hs => ⟨_, hs, ⟨j + 1, a', c', _, by omega, by (first | (simp -implicitDefEqProofs (disch := omega) only [go_sem, e0, e4, e6, e8, e9, e10]; done) | (simp -implicitDefEqProofs (disch := omega) only [go_sem, e0, e4, e6, e8, e9, e10]; rfl)), by (first | (simp -implicitDefEqProofs (disch := omega) only [go_sem, e0, e4, e6, e8, e9, e10]; done) | (simp -implicitDefEqProofs (disch := omega) only [go_sem, e0, e4, e6, e8, e9, e10]; rfl)), by (first | (simp -implicitDefEqProofs (disch := omega) only [go_sem, e0, e4, e6, e8, e9, e10]; done) | (simp -implicitDefEqProofs (disch := omega) only [go_sem, e0, e4, e6, e8, e9, e10]; rfl)), by (first | (simp -implicitDefEqProofs (disch := omega) only [go_sem, e0, e4, e6, e8, e9, e10]; done) | (simp -implicitDefEqProofs (disch := omega) only [go_sem, e0, e4, e6, e8, e9, e10]; rfl)), by (first | (simp -implicitDefEqProofs (disch := omega) only [go_sem, e0, e4, e6, e8, e9, e10]; done) | (simp -implicitDefEqProofs (disch := omega) only [go_sem, e0, e4, e6, e8, e9, e10]; rfl)), by (first | (simp -implicitDefEqProofs (disch := omega) only [go_sem, e0, e4, e6, e8, e9, e10]; done) | (simp -implicitDefEqProofs (disch := omega) only [go_sem, e0, e4, e6, e8, e9, e10]; rfl)), rfl⟩, ?_⟩
    simp -implicitDefEqProofs (disch := omega) only [go_sem, e0, e4, e6, e8, e9, e10, hm10]; omega
  · have g1 : decide (((j + 1 : Nat) : Int) < (q : Int)) = false := decide_eq_false (by omega)
    have hjq : j + 1 = q := by omega
    simp -implicitDefEqProofs (disch := omega) only [go_sem, e0, e4, e6, e8, e9, e10, g1]
    refine RDraw_seg (by kernel_rfl) (by kernel_rfl) 14 rfl ?_
    change RS _ _ [0, 1, 2, 3, 4, 5, 6, 7, 8, 9, 10, 11, 12, 13] _ _ _
    refine RS_det (by kernel_rfl) ?_
    by_cases he : e = 0
    rotate_left
    · rw [if_neg (fun h => he h.1)] at hhd
      rw [hhd] at hO
      repeat (first | refine ToO_step (fun Q hq => by (simp -implicitDefEqProofs (disch := omega) only [go_sem, e0, e4, e6, e8, e9, e10, decide_eq_false he]; exact hq)) ?_ | refine ToO_guard (by (simp -implicitDefEqProofs only [go_sem, e0, e4, e6, e8, e9, e10, decide_eq_false he]; first | done | fail)) (fun Q hq => by (simp -implicitDefEqProofs (disch := omega) only [go_sem, e0, e4, e6, e8, e9, e10, decide_eq_false he]; exact hq)) ?_ | refine ToO_skip (.inl (by (simp -implicitDefEqProofs only [go_sem, e0, e4, e6, e8, e9, e10, decide_eq_false he]; first | done | fail))) ?_ | refine ToO_skip (.inr (by (simp -implicitDefEqProofs only [go_sem, e0, e4, e6, e8, e9, e10, decide_eq_false he]; first | done | fail))) ?_)
      refine ToO_nil ?_
      simp -implicitDefEqProofs (disch := omega) only [go_sem]
      refine RNew_intro fun g2 hg2 => ?_
      simp -implicitDefEqProofs (disch := omega) only [go_sem]
      exact hQ _ _ fun w' hs => ⟨[_, _, _], hs, Pg.ropened_no hO (by decide) g2 _ _ _ _ rfl⟩
    by_cases hl2 : hd.length ≤ 200
    rotate_left
    · rw [if_neg (fun h => hl2 h.2.1)] at hhd
      rw [hhd] at hO
      have k : decide ((200 : Int) < (hd.length : Int)) = true := decide_eq_true (by omega)
      repeat (first | refine ToO_step (fun Q hq => by (simp -implicitDefEqProofs (disch := omega) only [go_sem, e0, e4, e6, e8, e9, e10, decide_eq_true he, k]; exact hq)) ?_ | refine ToO_guard (by (simp -implicitDefEqProofs only [go_sem, e0, e4, e6, e8, e9, e10, decide_eq_true he, k]; first | done | fail)) (fun Q hq => by (simp -implicitDefEqProofs (disch := omega) only [go_sem, e0, e4, e6, e8, e9, e10, decide_eq_true he, k]; exact hq)) ?_ | refine ToO_skip (.inl (by (simp -implicitDefEqProofs only [go_sem, e0, e4, e6, e8, e9, e10, decide_eq_true he, k]; first | done | fail))) ?_ | refine ToO_skip (.inr (by (simp -implicitDefEqProofs only [go_sem, e0, e4, e6, e8, e9, e10, decide_eq_true he, k]; first | done | fail))) ?_)
      refine ToO_nil ?_
      simp -implicitDefEqProofs (disch := omega) only [go_sem]
      refine RNew_intro fun g2 hg2 => ?_
      simp -implicitDefEqProofs (disch := omega) only [go_sem]
      exact hQ _ _ fun w' hs => ⟨[_, _, _], hs, Pg.ropened_no hO (by decide) g2 _ _ _ _ rfl⟩
    have k : decide ((200 : Int) < (hd.length : Int)) = false := decide_eq_false (by omega)
    have hiff := hfst he hl2
    repeat (first | refine ToO_step (fun Q hq => by (simp -implicitDefEqProofs (disch := omega) only [go_sem, e0, e4, e6, e8, e9, e10, decide_eq_true he, k]; exact hq)) ?_ | refine ToO_guard (by (simp -implicitDefEqProofs only [go_sem, e0, e4, e6, e8, e9, e10, decide_eq_true he, k]; first | done | fail)) (fun Q hq => by (simp -implicitDefEqProofs (disch := omega) only [go_sem, e0, e4, e6, e8, e9, e10, decide_eq_true he, k]; exact hq)) ?_ | refine ToO_skip (.inl (by (simp -implicitDefEqProofs only [go_sem, e0, e4, e6, e8, e9, e10, decide_eq_true he, k]; first | done | fail))) ?_ | refine ToO_skip (.inr (by (simp -implicitDefEqProofs only [go_sem, e0, e4, e6, e8, e9, e10, decide_eq_true he, k]; first | done | fail))) ?_)
    first | refine ToO_step (fun Q hq => by (simp -implicitDefEqProofs (disch := omega) only [go_sem, e0, e4, e6, e8, e9, e10]; refine RCall_eqS (fun w1 hs => by have := pages_rfirst g hd hl2 a j c (by omega) w1 (Pg.rat_of hs (List.mem_cons_of_mem _ (List.mem_cons_self ..))); rw [hjq] at this; exact this) ?_; simp -implicitDefEqProofs (disch := omega) only [go_sem, e0, e4, e6, e8, e9, e10]; exact hq)) ?_ | refine ToO_guard (by (simp -implicitDefEqProofs only [go_sem, e0, e4, e6, e8, e9, e10]; first | done | fail)) (fun Q hq => by (simp -implicitDefEqProofs (disch := omega) only [go_sem, e0, e4, e6, e8, e9, e10]; refine RCall_eqS (fun w1 hs => by have := pages_rfirst g hd hl2 a j c (by omega) w1 (Pg.rat_of hs (List.mem_cons_of_mem _ (List.mem_cons_self ..))); rw [hjq] at this; exact this) ?_; simp -implicitDefEqProofs (disch := omega) only [go_sem, e0, e4, e6, e8, e9, e10]; exact hq)) ?_
    repeat (first | refine ToO_step (fun Q hq => by (simp -implicitDefEqProofs (disch := omega) only [go_sem, e0, e4, e6, e8, e9, e10, Int.reduceToNat]; exact hq)) ?_ | refine ToO_guard (by (simp -implicitDefEqProofs only [go_sem, e0, e4, e6, e8, e9, e10, Int.reduceToNat]; first | done | fail)) (fun Q hq => by (simp -implicitDefEqProofs (disch := omega) only [go_sem, e0, e4, e6, e8, e9, e10, Int.reduceToNat]; exact hq)) ?_ | refine ToO_skip (.inl (by (simp -implicitDefEqProofs only [go_sem, e0, e4, e6, e8, e9, e10, Int.reduceToNat]; first | done | fail))) ?_ | refine ToO_skip (.inr (by (simp -implicitDefEqProofs only [go_sem, e0, e4, e6, e8, e9, e10, Int.reduceToNat]; first | done | fail))) ?_)
    refine ToO_nil ?_
    by_cases hz : Pg.pg (Pg.first q hd) = s.take 256
    · rw [if_pos ⟨he, hl2, hiff.2 hz⟩] at hhd
      rw [hhd] at hO
      simp -implicitDefEqProofs (disch := omega) only [go_sem, decide_eq_true hz, e0, e4, e6, e8, e9, e10]
      refine hQ _ _ fun w' hs => ⟨[_, _], hs.swap2, g, hd, _, _, _, by rw [hO], rfl, fun _ => by rw [hO]⟩
    · rw [if_neg (fun h => hz (hiff.1 h.2.2))] at hhd
      rw [hhd] at hO
      simp -implicitDefEqProofs (disch := omega) only [go_sem, decide_eq_false hz, e0, e4, e6, e8, e9, e10]
      refine RNew_intro fun g2 hg2 => ?_
      simp -implicitDefEqProofs (disch := omega) only [go_sem]
      exact hQ _ _ fun w' hs => ⟨[_, _, _], hs, Pg.ropened_no hO (by decide) g2 _ _ _ _ rfl⟩
end Go.Proofs.Ytldidoaagijnhaa
