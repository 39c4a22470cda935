/- node's reference: the walk: a node read. -/
import Derived.Test.YtlmbebnpnnkhmaaNodeG
namespace Go.Proofs.Ytlmbebnpnnkhmaa
set_option linter.unusedSimpArgs false
set_option linter.unusedVariables false
open H
theorem rkids_sl : slT Try.prog 23 65 3 24 := slT_of (by kernel_rfl)
namespace Nd
theorem numS_lt8 (s : List UInt8) (p k : Nat) (hk : k ≤ 4) : Vint.numS s p k < 9223372036854775808 := by
  have h1 := Vint.numS_lt s p k
  have h2 : 256 ^ k ≤ 256 ^ 4 := Nat.pow_le_pow_right (by decide) hk
  have h3 : (256 : Nat) ^ 4 = 4294967296 := by decide
  omega
theorem num_in (s : List UInt8) (a : Int) (k : Nat) (hk : k = 1 ∨ k = 2 ∨ k = 4) (h0 : 0 ≤ a) (h1 : a + k ≤ s.length) : (Vint.number s a (k : Int)).1 = nm s a (k : Int) := by
  unfold nm Vint.number
  have hw : ¬ (¬ Vint.wide (k : Int) ∨ a < 0) := by unfold Vint.wide; omega
  rw [if_neg hw, if_neg (by omega), if_neg (by have := numS_lt8 s a.toNat (k : Int).toNat (by omega); omega), if_pos rfl]
theorem num_t (s : List UInt8) (i : Nat) (hl : s.length = 252) (h : i ≤ 34) : (Vint.number s (2 + 7 * (i : Int)) 4).1 = (tAt s i).1 ∧ (Vint.number s (2 + 7 * (i : Int) + 4) 2).1 = (tAt s i).2.1 ∧ (Vint.number s (2 + 7 * (i : Int) + 6) 1).1 = (tAt s i).2.2 + 1 := by
  have e3 : 2 + 7 * (i : Int) + 6 = 2 + 7 * (i : Int) + 4 + 2 := by omega
  rw [e3]
  refine ⟨num_in s _ 4 (by omega) (by omega) (by omega), num_in s _ 2 (by omega) (by omega) (by omega), ?_⟩
  have := num_in s (2 + 7 * (i : Int) + 4 + 2) 1 (by omega) (by omega) (by omega)
  unfold tAt
  show _ = nm s (2 + 7 * (i : Int) + 4 + 2) 1 - 1 + 1
  rw [Int.sub_add_cancel]; exact this
theorem num_k (s : List UInt8) (i : Nat) (hl : s.length = 252) (h : i ≤ 19) : (Vint.number s (2 + 12 * (i : Int)) 4).1 = (kAt s i).1 ∧ (Vint.number s (2 + 12 * (i : Int) + 4) 4).1 = (kAt s i).2.1 ∧ (Vint.number s (2 + 12 * (i : Int) + 8) 4).1 = (kAt s i).2.2 := by
  have e3 : 2 + 12 * (i : Int) + 8 = 2 + 12 * (i : Int) + 4 + 4 := by omega
  rw [e3]
  exact ⟨num_in s _ 4 (by omega) (by omega) (by omega), num_in s _ 4 (by omega) (by omega) (by omega), num_in s _ 4 (by omega) (by omega) (by omega)⟩
theorem not_right_t {l : List Tk} (h : 35 < l.length) : right ⟨true, l, []⟩ = false := by
  unfold right sizes
  simp only [if_true, decide_eq_false (show ¬ l.length ≤ 35 by omega), Bool.and_false]
theorem not_right_k {l : List Tk} (h : 20 < l.length) : right ⟨false, [], l⟩ = false := by
  have : btw (l.length : Int) 1 20 = false := by unfold btw; exact decide_eq_false (by omega)
  unfold right sizes
  simp [this]
end Nd
set_option maxRecDepth 20000 in
set_option maxHeartbeats 4000000 in
theorem rnode_parse (s : List UInt8) (hsl : s.length ≤ 9223372036854775807) (w : World) : Does Try.prog 21 #[str s] w fun v w' => ∃ rs, Sat w' (rs ++ [.anchor w []]) ∧ ∃ v0, v = .tuple #[v0, .int .i64 (Nd.parse s).2] ∧ NewNode 27 65 v0 rs (Nd.parse s).1 := by
  refine does (args := [str s]) Try.func21 rfl (by kernel_rfl) (by kernel_rfl) rfl ent_21 (Sat.start w []) ?_; intro QV hQ
  simp -implicitDefEqProofs (disch := omega) only [go_sem]
  refine RNew_intro fun g1 hg1 => ?_
  simp only [below_cons, below_nil, under_anchor, and_true] at hg1
  have hfail : ∀ e : Int, ∀ w' h, Sat w' h → Res.anchor w [] ∈ h → ∃ rs, Sat w' (rs ++ [.anchor w []]) ∧ ∃ v0, Value.tuple #[.agg #[.bool false, .slice none 0 0, .slice none 0 0], .int .i64 e] = .tuple #[v0, .int .i64 e] ∧ NewNode 27 65 v0 rs Nd.n0 := fun e w' h hs hm => by
    have h1 : Sat w' [.anchor w []] := Sat.single hs hm
    exact ⟨_, (h1.own_nil 65 3).own_nil 27 3, _, rfl, none, 0, none, 0, rfl, Nat.le_refl _, Nat.le_refl _, rfl⟩
  by_cases hlen : s.length = 252
  rotate_left
  · have hlen' : ¬ (s.length : Int) = 252 := by omega
    have hp : Nd.parse s = (Nd.n0, 2) := by unfold Nd.parse; rw [if_pos hlen]
    rw [hp] at hQ
    simp -implicitDefEqProofs (disch := omega) only [go_sem, hlen', decide_false]
    exact hQ _ _ fun w' hs => hfail 2 w' _ hs (by simp)
  have hlen' : (s.length : Int) = 252 := by omega
  simp -implicitDefEqProofs (disch := omega) only [go_sem, hlen', decide_true]
  refine RNew_intro fun g2 hg2 => ?_
  have ng : g1 ≠ g2 := Nat.ne_of_lt hg2.1
  simp -implicitDefEqProofs (disch := omega) only [go_sem]
  have hcl := Nd.cnt_lt s
  have hcd : (s.getD 1 0).toNat = Nd.cnt s := rfl
  rw [hcd]
  have hpv : ∀ b e, Nd.build (Nd.unp s) = (b, e) → Nd.parse s = if e = 0 ∧ b = s then (Nd.unp s, 0) else (Nd.n0, 4) := fun b e h => by
    unfold Nd.parse
    rw [if_neg (by omega), h]
    by_cases hx : e = 0 ∧ b = s
    · rw [if_pos hx, if_pos (by rw [hx.1, hx.2])]
    · rw [if_neg hx, if_neg (fun h => hx (by injection h with h1 h2; exact ⟨h2, h1⟩))]
  generalize hbe : Nd.build (Nd.unp s) = be at *
  obtain ⟨bb, be⟩ := be
  have hpv := hpv bb be rfl
  cases hlf : Nd.isLeaf s with
  | true =>
    have hlf' : decide (s.getD 0 0 = 1) = true := hlf
    have hun : Nd.unp s = ⟨true, Nd.toksTo s (Nd.cnt s), []⟩ := by unfold Nd.unp; rw [hlf]; rfl
    rw [hlf']
    refine RLoop_from (fun f h => ∃ (i : Nat) (a' : Option Addr) (c' : Nat), i ≤ Nd.cnt s ∧ i ≤ 35 ∧ i ≤ c' ∧ f 0 = str s ∧ f 2 = .pointer (some ⟨g1, 0, none⟩) ∧ f 4 = .pointer (some ⟨g2, 0, none⟩) ∧ f 5 = .int .i64 (Nd.cnt s : Int) ∧ f 6 = .int .i64 (i : Int) ∧
      h = [Own 27 3 (.slice a' i c') i ((Nd.toksTo s i).flatMap Tok.tkC), Own 65 3 (.slice none 0 0) 0 [], .cells g2 25 #[.bool true, .slice a' i c', .slice none 0 0], .cells g1 25 #[.bool false, .slice none 0 0, .slice none 0 0], .anchor w []]) (fun f _ => (Nd.cnt s - ival (f 6)).toNat) ?_ ?_
    · exact fun w1 hs => ⟨_, (hs.own_nil 65 3).own_nil 27 3, 0, none, 0, by omega, by omega, by omega, by (first | (simp -implicitDefEqProofs (disch := omega) only [go_sem]; done) | (simp -implicitDefEqProofs (disch := omega) only [go_sem]; rfl)), by (first | (simp -implicitDefEqProofs (disch := omega) only [go_sem]; done) | (simp -implicitDefEqProofs (disch := omega) only [go_sem]; rfl)), by (first | (simp -implicitDefEqProofs (disch := omega) only [go_sem]; done) | (simp -implicitDefEqProofs (disch := omega) only [go_sem]; rfl)), by (first | (simp -implicitDefEqProofs (disch := omega) only [go_sem]; done) | (simp -implicitDefEqProofs (disch := omega) only [go_sem]; rfl)), by (first | (simp -implicitDefEqProofs (disch := omega) only [go_sem]; done) | (simp -implicitDefEqProofs (disch := omega) only [go_sem]; rfl)), rfl⟩
    rintro f h ⟨i, a', c', hi, hi35, hc', e0, e2, e4, e5, e6, rfl⟩ Q' hQ'
    by_cases hil : i < Nd.cnt s
    · have g1' : (i : Int) < (Nd.cnt s : Int) := by omega
      have g36 : (i : Int) < 36 := by omega
      by_cases h35 : i = 35
      · have hp : Nd.parse s = (Nd.n0, 4) := by
          have hnr : Nd.right (Nd.unp s) = false := by rw [hun]; exact Nd.not_right_t (by rw [Nd.toksTo_len]; omega)
          have : be = 4 := by
            have h2 := hbe
            unfold Nd.build at h2
            rw [if_neg (by rw [hnr]; simp)] at h2
            injection h2 with _ h3; exact h3.symm
          rw [hpv, if_neg (by rw [this]; omega)]
        rw [hp] at hQ
        have gbig : (252 : Int) < 2 + 7 * (i : Int) + 7 := by omega
        simp -implicitDefEqProofs (disch := omega) only [go_sem, e0, e2, e4, e5, e6, g1', g36, gbig, decide_true]
        exact hQ _ _ fun w' hs => hfail 4 w' _ hs (by simp)
      have gsm : ¬ (252 : Int) < 2 + 7 * (i : Int) + 7 := by omega
      have hrow := Nd.toksTo_succ s i
      obtain ⟨n1, n2, n3⟩ := Nd.num_t s i hlen (by omega)
      have hb3 : -2 ≤ (Nd.tAt s i).2.2 ∧ (Nd.tAt s i).2.2 < 9223372036854775807 := by
        have := Nd.nm_bound s (2 + 7 * (i : Int) + 4 + 2) 1
        unfold Nd.tAt; simp only []; omega
      generalize hx : Nd.tAt s i = x at *
      have hs1 : x.2.2 + 1 - 1 = x.2.2 := by omega
      have c1 : ∀ w, Does Try.prog 39 #[str s, .int .i64 (2 + 7 * (i : Int)), .int .i64 4] w fun v w' => v = .int .i64 x.1 ∧ Ext [] w w' := n1 ▸ rnode_number s hsl (2 + 7 * (i : Int)) 4 (by omega)
      have c2 : ∀ w, Does Try.prog 39 #[str s, .int .i64 (2 + 7 * (i : Int) + 4), .int .i64 2] w fun v w' => v = .int .i64 x.2.1 ∧ Ext [] w w' := n2 ▸ rnode_number s hsl (2 + 7 * (i : Int) + 4) 2 (by omega)
      have c3 : ∀ w, Does Try.prog 39 #[str s, .int .i64 (2 + 7 * (i : Int) + 6), .int .i64 1] w fun v w' => v = .int .i64 (x.2.2 + 1) ∧ Ext [] w w' := n3 ▸ rnode_number s hsl (2 + 7 * (i : Int) + 6) 1 (by omega)
      simp -implicitDefEqProofs (disch := omega) only [go_sem, e0, e2, e4, e5, e6, g1', g36, gsm, decide_true, decide_false]
      generalize hH : [Own 27 3 (.slice a' i c') i ((Nd.toksTo s i).flatMap Tok.tkC), Own 65 3 (.slice none 0 0) 0 [], .cells g2 25 #[.bool true, .slice a' i c', .slice none 0 0], .cells g1 25 #[.bool false, .slice none 0 0, .slice none 0 0], .anchor w []] = H at *
      refine RDraw_seg (by kernel_rfl) (by kernel_rfl) 19 rfl ?_
      refine RS_cutR [0, 2, 3, 5, 6, 7, 9, 10, 11, 17] [1, 4, 8, 12, 13, 14, 15, 16, 18] (by decide +kernel) ?_
      refine RS_det (by kernel_rfl) ?_
      repeat (first | refine ToO_step (fun Q hq => by (simp -implicitDefEqProofs (disch := omega) only [go_sem, e0, e2, e4, e5, e6]; exact hq)) ?_ | refine ToO_guard (by (simp -implicitDefEqProofs only [go_sem, e0, e2, e4, e5, e6]; first | done | fail)) (fun Q hq => by (simp -implicitDefEqProofs (disch := omega) only [go_sem, e0, e2, e4, e5, e6]; exact hq)) ?_ | refine ToO_skip (.inl (by (simp -implicitDefEqProofs only [go_sem, e0, e2, e4, e5, e6]; first | done | fail))) ?_ | refine ToO_skip (.inr (by (simp -implicitDefEqProofs only [go_sem, e0, e2, e4, e5, e6]; first | done | fail))) ?_)
      refine ToO_nil ?_
      refine RS_via [16, 18] (fun f h => ∃ gn, g2 ≠ gn ∧ f 0 = str s ∧ f 2 = .pointer (some ⟨g1, 0, none⟩) ∧ f 4 = .pointer (some ⟨g2, 0, none⟩) ∧ f 5 = .int .i64 (Nd.cnt s : Int) ∧ f 6 = .int .i64 (i : Int) ∧ f 44 = .slice a' i c' ∧ f 58 = .slice (some ⟨gn, 0, none⟩) 1 1 ∧ f 60 = .pointer (some ⟨g2, 1, none⟩) ∧
        h = .cells gn 27 (List.toArray [.int .i64 x.1, .int .i64 x.2.1, .int .i64 x.2.2]) :: H) (fun K' hI => ?_) ?_
      · subst hH
        refine RS_first [1, 4] (by kernel_rfl) ⟨?_, ?_, trivial⟩
        · simp -implicitDefEqProofs (disch := omega) only [go_sem, e0, e2, e4, e5, e6, hs1]
          refine RS_cut [4, 8, 12, 13, 14, 15] [16, 18] (by kernel_rfl) ?_
          refine RS_text (L := [4, 8, 12, 13, 14, 15]) (by kernel_rfl) ?_
          simp -implicitDefEqProofs (disch := omega) only [go_sem, e0, e2, e4, e5, e6, hs1]
          refine RCall_eq c1 ?_
          try simp -implicitDefEqProofs (disch := omega) only [go_sem, e0, e2, e4, e5, e6, hs1]
          refine RCall_eq c2 ?_
          try simp -implicitDefEqProofs (disch := omega) only [go_sem, e0, e2, e4, e5, e6, hs1]
          refine RCall_eq c3 ?_
          try simp -implicitDefEqProofs (disch := omega) only [go_sem, e0, e2, e4, e5, e6, hs1]
          refine RRun_build1z (cs := [.int .i64 x.1, .int .i64 x.2.1, .int .i64 x.2.2]) toks_sl rfl (by omega) fun gn hgn => ?_
          have ngn : g2 ≠ gn := by obtain ⟨_, _, h, _⟩ := hgn; exact Nat.ne_of_lt h
          try simp -implicitDefEqProofs (disch := omega) only [go_sem, e0, e2, e4, e5, e6, hs1]
          exact hI _ _ ⟨gn, ngn, by (first | (simp -implicitDefEqProofs (disch := omega) only [go_sem, e0, e2, e4, e5, e6]; done) | (simp -implicitDefEqProofs (disch := omega) only [go_sem, e0, e2, e4, e5, e6]; rfl)), by (first | (simp -implicitDefEqProofs (disch := omega) only [go_sem, e0, e2, e4, e5, e6]; done) | (simp -implicitDefEqProofs (disch := omega) only [go_sem, e0, e2, e4, e5, e6]; rfl)), by (first | (simp -implicitDefEqProofs (disch := omega) only [go_sem, e0, e2, e4, e5, e6]; done) | (simp -implicitDefEqProofs (disch := omega) only [go_sem, e0, e2, e4, e5, e6]; rfl)), by (first | (simp -implicitDefEqProofs (disch := omega) only [go_sem, e0, e2, e4, e5, e6]; done) | (simp -implicitDefEqProofs (disch := omega) only [go_sem, e0, e2, e4, e5, e6]; rfl)), by (first | (simp -implicitDefEqProofs (disch := omega) only [go_sem, e0, e2, e4, e5, e6]; done) | (simp -implicitDefEqProofs (disch := omega) only [go_sem, e0, e2, e4, e5, e6]; rfl)), by (first | (simp -implicitDefEqProofs (disch := omega) only [go_sem, e0, e2, e4, e5, e6]; done) | (simp -implicitDefEqProofs (disch := omega) only [go_sem, e0, e2, e4, e5, e6]; rfl)), by (first | (simp -implicitDefEqProofs (disch := omega) only [go_sem, e0, e2, e4, e5, e6]; done) | (simp -implicitDefEqProofs (disch := omega) only [go_sem, e0, e2, e4, e5, e6]; rfl)), by (first | (simp -implicitDefEqProofs (disch := omega) only [go_sem, e0, e2, e4, e5, e6]; done) | (simp -implicitDefEqProofs (disch := omega) only [go_sem, e0, e2, e4, e5, e6]; rfl)), rfl⟩
        · simp -implicitDefEqProofs (disch := omega) only [go_sem, e0, e2, e4, e5, e6, hs1]
          refine RCall_eq c1 ?_
          try simp -implicitDefEqProofs (disch := omega) only [go_sem, e0, e2, e4, e5, e6, hs1]
          refine RS_first [1, 8] (by kernel_rfl) ⟨?_, ?_, trivial⟩
          · simp -implicitDefEqProofs (disch := omega) only [go_sem, e0, e2, e4, e5, e6, hs1]
            refine RS_cut [8, 12, 13, 14, 15] [16, 18] (by kernel_rfl) ?_
            refine RS_text (L := [8, 12, 13, 14, 15]) (by kernel_rfl) ?_
            simp -implicitDefEqProofs (disch := omega) only [go_sem, e0, e2, e4, e5, e6, hs1]
            refine RCall_eq c2 ?_
            try simp -implicitDefEqProofs (disch := omega) only [go_sem, e0, e2, e4, e5, e6, hs1]
            refine RCall_eq c3 ?_
            try simp -implicitDefEqProofs (disch := omega) only [go_sem, e0, e2, e4, e5, e6, hs1]
            refine RRun_build1z (cs := [.int .i64 x.1, .int .i64 x.2.1, .int .i64 x.2.2]) toks_sl rfl (by omega) fun gn hgn => ?_
            have ngn : g2 ≠ gn := by obtain ⟨_, _, h, _⟩ := hgn; exact Nat.ne_of_lt h
            try simp -implicitDefEqProofs (disch := omega) only [go_sem, e0, e2, e4, e5, e6, hs1]
            exact hI _ _ ⟨gn, ngn, by (first | (simp -implicitDefEqProofs (disch := omega) only [go_sem, e0, e2, e4, e5, e6]; done) | (simp -implicitDefEqProofs (disch := omega) only [go_sem, e0, e2, e4, e5, e6]; rfl)), by (first | (simp -implicitDefEqProofs (disch := omega) only [go_sem, e0, e2, e4, e5, e6]; done) | (simp -implicitDefEqProofs (disch := omega) only [go_sem, e0, e2, e4, e5, e6]; rfl)), by (first | (simp -implicitDefEqProofs (disch := omega) only [go_sem, e0, e2, e4, e5, e6]; done) | (simp -implicitDefEqProofs (disch := omega) only [go_sem, e0, e2, e4, e5, e6]; rfl)), by (first | (simp -implicitDefEqProofs (disch := omega) only [go_sem, e0, e2, e4, e5, e6]; done) | (simp -implicitDefEqProofs (disch := omega) only [go_sem, e0, e2, e4, e5, e6]; rfl)), by (first | (simp -implicitDefEqProofs (disch := omega) only [go_sem, e0, e2, e4, e5, e6]; done) | (simp -implicitDefEqProofs (disch := omega) only [go_sem, e0, e2, e4, e5, e6]; rfl)), by (first | (simp -implicitDefEqProofs (disch := omega) only [go_sem, e0, e2, e4, e5, e6]; done) | (simp -implicitDefEqProofs (disch := omega) only [go_sem, e0, e2, e4, e5, e6]; rfl)), by (first | (simp -implicitDefEqProofs (disch := omega) only [go_sem, e0, e2, e4, e5, e6]; done) | (simp -implicitDefEqProofs (disch := omega) only [go_sem, e0, e2, e4, e5, e6]; rfl)), by (first | (simp -implicitDefEqProofs (disch := omega) only [go_sem, e0, e2, e4, e5, e6]; done) | (simp -implicitDefEqProofs (disch := omega) only [go_sem, e0, e2, e4, e5, e6]; rfl)), rfl⟩
          · simp -implicitDefEqProofs (disch := omega) only [go_sem, e0, e2, e4, e5, e6, hs1]
            refine RCall_eq c2 ?_
            try simp -implicitDefEqProofs (disch := omega) only [go_sem, e0, e2, e4, e5, e6, hs1]
            refine RS_first [1, 12] (by kernel_rfl) ⟨?_, ?_, trivial⟩
            · simp -implicitDefEqProofs (disch := omega) only [go_sem, e0, e2, e4, e5, e6, hs1]
              refine RS_cut [12, 13, 14, 15] [16, 18] (by kernel_rfl) ?_
              refine RS_text (L := [12, 13, 14, 15]) (by kernel_rfl) ?_
              simp -implicitDefEqProofs (disch := omega) only [go_sem, e0, e2, e4, e5, e6, hs1]
              refine RCall_eq c3 ?_
              try simp -implicitDefEqProofs (disch := omega) only [go_sem, e0, e2, e4, e5, e6, hs1]
              refine RRun_build1z (cs := [.int .i64 x.1, .int .i64 x.2.1, .int .i64 x.2.2]) toks_sl rfl (by omega) fun gn hgn => ?_
              have ngn : g2 ≠ gn := by obtain ⟨_, _, h, _⟩ := hgn; exact Nat.ne_of_lt h
              try simp -implicitDefEqProofs (disch := omega) only [go_sem, e0, e2, e4, e5, e6, hs1]
              exact hI _ _ ⟨gn, ngn, by (first | (simp -implicitDefEqProofs (disch := omega) only [go_sem, e0, e2, e4, e5, e6]; done) | (simp -implicitDefEqProofs (disch := omega) only [go_sem, e0, e2, e4, e5, e6]; rfl)), by (first | (simp -implicitDefEqProofs (disch := omega) only [go_sem, e0, e2, e4, e5, e6]; done) | (simp -implicitDefEqProofs (disch := omega) only [go_sem, e0, e2, e4, e5, e6]; rfl)), by (first | (simp -implicitDefEqProofs (disch := omega) only [go_sem, e0, e2, e4, e5, e6]; done) | (simp -implicitDefEqProofs (disch := omega) only [go_sem, e0, e2, e4, e5, e6]; rfl)), by (first | (simp -implicitDefEqProofs (disch := omega) only [go_sem, e0, e2, e4, e5, e6]; done) | (simp -implicitDefEqProofs (disch := omega) only [go_sem, e0, e2, e4, e5, e6]; rfl)), by (first | (simp -implicitDefEqProofs (disch := omega) only [go_sem, e0, e2, e4, e5, e6]; done) | (simp -implicitDefEqProofs (disch := omega) only [go_sem, e0, e2, e4, e5, e6]; rfl)), by (first | (simp -implicitDefEqProofs (disch := omega) only [go_sem, e0, e2, e4, e5, e6]; done) | (simp -implicitDefEqProofs (disch := omega) only [go_sem, e0, e2, e4, e5, e6]; rfl)), by (first | (simp -implicitDefEqProofs (disch := omega) only [go_sem, e0, e2, e4, e5, e6]; done) | (simp -implicitDefEqProofs (disch := omega) only [go_sem, e0, e2, e4, e5, e6]; rfl)), by (first | (simp -implicitDefEqProofs (disch := omega) only [go_sem, e0, e2, e4, e5, e6]; done) | (simp -implicitDefEqProofs (disch := omega) only [go_sem, e0, e2, e4, e5, e6]; rfl)), rfl⟩
            · simp -implicitDefEqProofs (disch := omega) only [go_sem, e0, e2, e4, e5, e6, hs1]
              refine RCall_eq c3 ?_
              try simp -implicitDefEqProofs (disch := omega) only [go_sem, e0, e2, e4, e5, e6, hs1]
              refine RS_first [1, 13] (by kernel_rfl) ⟨?_, ?_, trivial⟩
              · simp -implicitDefEqProofs (disch := omega) only [go_sem, e0, e2, e4, e5, e6, hs1]
                refine RS_cut [13, 14, 15] [16, 18] (by kernel_rfl) ?_
                refine RS_text (L := [13, 14, 15]) (by kernel_rfl) ?_
                simp -implicitDefEqProofs (disch := omega) only [go_sem, e0, e2, e4, e5, e6, hs1]
                refine RRun_build1z (cs := [.int .i64 x.1, .int .i64 x.2.1, .int .i64 x.2.2]) toks_sl rfl (by omega) fun gn hgn => ?_
                have ngn : g2 ≠ gn := by obtain ⟨_, _, h, _⟩ := hgn; exact Nat.ne_of_lt h
                try simp -implicitDefEqProofs (disch := omega) only [go_sem, e0, e2, e4, e5, e6, hs1]
                exact hI _ _ ⟨gn, ngn, by (first | (simp -implicitDefEqProofs (disch := omega) only [go_sem, e0, e2, e4, e5, e6]; done) | (simp -implicitDefEqProofs (disch := omega) only [go_sem, e0, e2, e4, e5, e6]; rfl)), by (first | (simp -implicitDefEqProofs (disch := omega) only [go_sem, e0, e2, e4, e5, e6]; done) | (simp -implicitDefEqProofs (disch := omega) only [go_sem, e0, e2, e4, e5, e6]; rfl)), by (first | (simp -implicitDefEqProofs (disch := omega) only [go_sem, e0, e2, e4, e5, e6]; done) | (simp -implicitDefEqProofs (disch := omega) only [go_sem, e0, e2, e4, e5, e6]; rfl)), by (first | (simp -implicitDefEqProofs (disch := omega) only [go_sem, e0, e2, e4, e5, e6]; done) | (simp -implicitDefEqProofs (disch := omega) only [go_sem, e0, e2, e4, e5, e6]; rfl)), by (first | (simp -implicitDefEqProofs (disch := omega) only [go_sem, e0, e2, e4, e5, e6]; done) | (simp -implicitDefEqProofs (disch := omega) only [go_sem, e0, e2, e4, e5, e6]; rfl)), by (first | (simp -implicitDefEqProofs (disch := omega) only [go_sem, e0, e2, e4, e5, e6]; done) | (simp -implicitDefEqProofs (disch := omega) only [go_sem, e0, e2, e4, e5, e6]; rfl)), by (first | (simp -implicitDefEqProofs (disch := omega) only [go_sem, e0, e2, e4, e5, e6]; done) | (simp -implicitDefEqProofs (disch := omega) only [go_sem, e0, e2, e4, e5, e6]; rfl)), by (first | (simp -implicitDefEqProofs (disch := omega) only [go_sem, e0, e2, e4, e5, e6]; done) | (simp -implicitDefEqProofs (disch := omega) only [go_sem, e0, e2, e4, e5, e6]; rfl)), rfl⟩
              · simp -implicitDefEqProofs (disch := omega) only [go_sem, e0, e2, e4, e5, e6, hs1]
                refine RS_first [1, 14] (by kernel_rfl) ⟨?_, ?_, trivial⟩
                · simp -implicitDefEqProofs (disch := omega) only [go_sem, e0, e2, e4, e5, e6, hs1]
                  refine RS_cut [14, 15] [16, 18] (by kernel_rfl) ?_
                  refine RS_text (L := [14, 15]) (by kernel_rfl) ?_
                  simp -implicitDefEqProofs (disch := omega) only [go_sem, e0, e2, e4, e5, e6, hs1]
                  refine RRun_build1z (cs := [.int .i64 x.1, .int .i64 x.2.1, .int .i64 x.2.2]) toks_sl rfl (by omega) fun gn hgn => ?_
                  have ngn : g2 ≠ gn := by obtain ⟨_, _, h, _⟩ := hgn; exact Nat.ne_of_lt h
                  try simp -implicitDefEqProofs (disch := omega) only [go_sem, e0, e2, e4, e5, e6, hs1]
                  exact hI _ _ ⟨gn, ngn, by (first | (simp -implicitDefEqProofs (disch := omega) only [go_sem, e0, e2, e4, e5, e6]; done) | (simp -implicitDefEqProofs (disch := omega) only [go_sem, e0, e2, e4, e5, e6]; rfl)), by (first | (simp -implicitDefEqProofs (disch := omega) only [go_sem, e0, e2, e4, e5, e6]; done) | (simp -implicitDefEqProofs (disch := omega) only [go_sem, e0, e2, e4, e5, e6]; rfl)), by (first | (simp -implicitDefEqProofs (disch := omega) only [go_sem, e0, e2, e4, e5, e6]; done) | (simp -implicitDefEqProofs (disch := omega) only [go_sem, e0, e2, e4, e5, e6]; rfl)), by (first | (simp -implicitDefEqProofs (disch := omega) only [go_sem, e0, e2, e4, e5, e6]; done) | (simp -implicitDefEqProofs (disch := omega) only [go_sem, e0, e2, e4, e5, e6]; rfl)), by (first | (simp -implicitDefEqProofs (disch := omega) only [go_sem, e0, e2, e4, e5, e6]; done) | (simp -implicitDefEqProofs (disch := omega) only [go_sem, e0, e2, e4, e5, e6]; rfl)), by (first | (simp -implicitDefEqProofs (disch := omega) only [go_sem, e0, e2, e4, e5, e6]; done) | (simp -implicitDefEqProofs (disch := omega) only [go_sem, e0, e2, e4, e5, e6]; rfl)), by (first | (simp -implicitDefEqProofs (disch := omega) only [go_sem, e0, e2, e4, e5, e6]; done) | (simp -implicitDefEqProofs (disch := omega) only [go_sem, e0, e2, e4, e5, e6]; rfl)), by (first | (simp -implicitDefEqProofs (disch := omega) only [go_sem, e0, e2, e4, e5, e6]; done) | (simp -implicitDefEqProofs (disch := omega) only [go_sem, e0, e2, e4, e5, e6]; rfl)), rfl⟩
                · simp -implicitDefEqProofs (disch := omega) only [go_sem, e0, e2, e4, e5, e6, hs1]
                  refine RS_first [1, 15] (by kernel_rfl) ⟨?_, ?_, trivial⟩
                  · simp -implicitDefEqProofs (disch := omega) only [go_sem, e0, e2, e4, e5, e6, hs1]
                    refine RS_cut [15] [16, 18] (by kernel_rfl) ?_
                    refine RS_text (L := [15]) (by kernel_rfl) ?_
                    simp -implicitDefEqProofs (disch := omega) only [go_sem, e0, e2, e4, e5, e6, hs1]
                    refine RRun_build1z (cs := [.int .i64 x.1, .int .i64 x.2.1, .int .i64 x.2.2]) toks_sl rfl (by omega) fun gn hgn => ?_
                    have ngn : g2 ≠ gn := by obtain ⟨_, _, h, _⟩ := hgn; exact Nat.ne_of_lt h
                    try simp -implicitDefEqProofs (disch := omega) only [go_sem, e0, e2, e4, e5, e6, hs1]
                    exact hI _ _ ⟨gn, ngn, by (first | (simp -implicitDefEqProofs (disch := omega) only [go_sem, e0, e2, e4, e5, e6]; done) | (simp -implicitDefEqProofs (disch := omega) only [go_sem, e0, e2, e4, e5, e6]; rfl)), by (first | (simp -implicitDefEqProofs (disch := omega) only [go_sem, e0, e2, e4, e5, e6]; done) | (simp -implicitDefEqProofs (disch := omega) only [go_sem, e0, e2, e4, e5, e6]; rfl)), by (first | (simp -implicitDefEqProofs (disch := omega) only [go_sem, e0, e2, e4, e5, e6]; done) | (simp -implicitDefEqProofs (disch := omega) only [go_sem, e0, e2, e4, e5, e6]; rfl)), by (first | (simp -implicitDefEqProofs (disch := omega) only [go_sem, e0, e2, e4, e5, e6]; done) | (simp -implicitDefEqProofs (disch := omega) only [go_sem, e0, e2, e4, e5, e6]; rfl)), by (first | (simp -implicitDefEqProofs (disch := omega) only [go_sem, e0, e2, e4, e5, e6]; done) | (simp -implicitDefEqProofs (disch := omega) only [go_sem, e0, e2, e4, e5, e6]; rfl)), by (first | (simp -implicitDefEqProofs (disch := omega) only [go_sem, e0, e2, e4, e5, e6]; done) | (simp -implicitDefEqProofs (disch := omega) only [go_sem, e0, e2, e4, e5, e6]; rfl)), by (first | (simp -implicitDefEqProofs (disch := omega) only [go_sem, e0, e2, e4, e5, e6]; done) | (simp -implicitDefEqProofs (disch := omega) only [go_sem, e0, e2, e4, e5, e6]; rfl)), by (first | (simp -implicitDefEqProofs (disch := omega) only [go_sem, e0, e2, e4, e5, e6]; done) | (simp -implicitDefEqProofs (disch := omega) only [go_sem, e0, e2, e4, e5, e6]; rfl)), rfl⟩
                  · simp -implicitDefEqProofs (disch := omega) only [go_sem, e0, e2, e4, e5, e6, hs1]
                    refine RRun_build1z (cs := [.int .i64 x.1, .int .i64 x.2.1, .int .i64 x.2.2]) toks_sl rfl (by omega) fun gn hgn => ?_
                    have ngn : g2 ≠ gn := by obtain ⟨_, _, h, _⟩ := hgn; exact Nat.ne_of_lt h
                    try simp -implicitDefEqProofs (disch := omega) only [go_sem, e0, e2, e4, e5, e6, hs1]
                    refine RS_cut [1] [16, 18] (by kernel_rfl) ?_
                    refine RS_text (L := [1]) (by kernel_rfl) ?_
                    simp -implicitDefEqProofs (disch := omega) only [go_sem, e0, e2, e4, e5, e6, hs1]
                    exact hI _ _ ⟨gn, ngn, by (first | (simp -implicitDefEqProofs (disch := omega) only [go_sem, e0, e2, e4, e5, e6]; done) | (simp -implicitDefEqProofs (disch := omega) only [go_sem, e0, e2, e4, e5, e6]; rfl)), by (first | (simp -implicitDefEqProofs (disch := omega) only [go_sem, e0, e2, e4, e5, e6]; done) | (simp -implicitDefEqProofs (disch := omega) only [go_sem, e0, e2, e4, e5, e6]; rfl)), by (first | (simp -implicitDefEqProofs (disch := omega) only [go_sem, e0, e2, e4, e5, e6]; done) | (simp -implicitDefEqProofs (disch := omega) only [go_sem, e0, e2, e4, e5, e6]; rfl)), by (first | (simp -implicitDefEqProofs (disch := omega) only [go_sem, e0, e2, e4, e5, e6]; done) | (simp -implicitDefEqProofs (disch := omega) only [go_sem, e0, e2, e4, e5, e6]; rfl)), by (first | (simp -implicitDefEqProofs (disch := omega) only [go_sem, e0, e2, e4, e5, e6]; done) | (simp -implicitDefEqProofs (disch := omega) only [go_sem, e0, e2, e4, e5, e6]; rfl)), by (first | (simp -implicitDefEqProofs (disch := omega) only [go_sem, e0, e2, e4, e5, e6]; done) | (simp -implicitDefEqProofs (disch := omega) only [go_sem, e0, e2, e4, e5, e6]; rfl)), by (first | (simp -implicitDefEqProofs (disch := omega) only [go_sem, e0, e2, e4, e5, e6]; done) | (simp -implicitDefEqProofs (disch := omega) only [go_sem, e0, e2, e4, e5, e6]; rfl)), by (first | (simp -implicitDefEqProofs (disch := omega) only [go_sem, e0, e2, e4, e5, e6]; done) | (simp -implicitDefEqProofs (disch := omega) only [go_sem, e0, e2, e4, e5, e6]; rfl)), rfl⟩
      · clear e0 e2 e4 e5
        rintro f' h ⟨gn, ngn, e0, e2, e4, e5, e6', e44, e58, e60, rfl⟩
        subst hH
        refine RS_text (by kernel_rfl) ?_
        simp -implicitDefEqProofs (disch := omega) only [go_sem, e0, e2, e4, e5, e6', e44, e58, e60]
        refine RRun_append_cells toks_sl (fun _ hs => hs.2.2.2) rfl (tkC_one' x) (by omega) (by simp only [maxLen]; omega) fun a'' c'' hc'' => ?_
        simp -implicitDefEqProofs (disch := omega) only [go_sem, e0, e2, e4, e5, e6', e44, e58, e60]
        refine hQ' _ _ fun w1 hs => ⟨_, hs, ⟨i + 1, a'', c'', by omega, by omega, hc'', ?_, ?_, ?_, ?_, ?_, by rw [hrow, tkC_snoc]⟩, ?_⟩
        · (first | (simp -implicitDefEqProofs (disch := omega) only [go_sem, e0, e2, e4, e5, e6', e44, e58, e60]; done) | (simp -implicitDefEqProofs (disch := omega) only [go_sem, e0, e2, e4, e5, e6', e44, e58, e60]; rfl))
        · (first | (simp -implicitDefEqProofs (disch := omega) only [go_sem, e0, e2, e4, e5, e6', e44, e58, e60]; done) | (simp -implicitDefEqProofs (disch := omega) only [go_sem, e0, e2, e4, e5, e6', e44, e58, e60]; rfl))
        · (first | (simp -implicitDefEqProofs (disch := omega) only [go_sem, e0, e2, e4, e5, e6', e44, e58, e60]; done) | (simp -implicitDefEqProofs (disch := omega) only [go_sem, e0, e2, e4, e5, e6', e44, e58, e60]; rfl))
        · (first | (simp -implicitDefEqProofs (disch := omega) only [go_sem, e0, e2, e4, e5, e6', e44, e58, e60]; done) | (simp -implicitDefEqProofs (disch := omega) only [go_sem, e0, e2, e4, e5, e6', e44, e58, e60]; rfl))
        · (first | (simp -implicitDefEqProofs (disch := omega) only [go_sem, e0, e2, e4, e5, e6', e44, e58, e60]; done) | (simp -implicitDefEqProofs (disch := omega) only [go_sem, e0, e2, e4, e5, e6', e44, e58, e60]; rfl))
        · simp -implicitDefEqProofs (disch := omega) only [go_sem, e0, e2, e4, e5, e6', e44, e58, e60, e6]; omega
    have g1' : ¬ (i : Int) < (Nd.cnt s : Int) := by omega
    obtain rfl : i = Nd.cnt s := by omega
    have hl2 := Nd.toksTo_len s (Nd.cnt s)
    rw [hun] at hbe
    rw [hun] at hpv
    generalize Nd.toksTo s (Nd.cnt s) = r at *
    simp -implicitDefEqProofs (disch := omega) only [go_sem, e0, e2, e4, e5, e6, g1', decide_false]
    clear hQ' e6
    generalize hH : [Own 27 3 (.slice a' (Nd.cnt s) c') (Nd.cnt s) (r.flatMap Tok.tkC), Own 65 3 (.slice none 0 0) 0 [], .cells g2 25 #[.bool true, .slice a' (Nd.cnt s) c', .slice none 0 0], .cells g1 25 #[.bool false, .slice none 0 0, .slice none 0 0], .anchor w []] = H at *
    refine RLoop_intro (fun f h => f 0 = str s ∧ f 2 = .pointer (some ⟨g1, 0, none⟩) ∧ f 4 = .pointer (some ⟨g2, 0, none⟩) ∧ f 5 = .int .i64 (Nd.cnt s : Int) ∧ f 8 = .int .i64 0 ∧ h = H) (fun f _ => 0) ?_ ?_
    · exact ⟨by (first | (simp -implicitDefEqProofs (disch := omega) only [go_sem, e0]; done) | (simp -implicitDefEqProofs (disch := omega) only [go_sem, e0]; rfl)), by (first | (simp -implicitDefEqProofs (disch := omega) only [go_sem, e2]; done) | (simp -implicitDefEqProofs (disch := omega) only [go_sem, e2]; rfl)), by (first | (simp -implicitDefEqProofs (disch := omega) only [go_sem, e4]; done) | (simp -implicitDefEqProofs (disch := omega) only [go_sem, e4]; rfl)), by (first | (simp -implicitDefEqProofs (disch := omega) only [go_sem, e5]; done) | (simp -implicitDefEqProofs (disch := omega) only [go_sem, e5]; rfl)), by (first | (simp -implicitDefEqProofs (disch := omega) only [go_sem]; done) | (simp -implicitDefEqProofs (disch := omega) only [go_sem]; rfl)), rfl⟩
    rintro f h ⟨q0, q2, q4, q5, q8, rfl⟩ Q' _
    subst hH
    by_cases hz : (0 : Int) < (Nd.cnt s : Int)
    · simp -implicitDefEqProofs (disch := omega) only [go_sem, q0, q2, q4, q5, q8, hz, decide_true]
      rw [← hl2] at hc' hcl ⊢
      refine RCall_eqS (u := .tuple #[str bb, .int .i64 be]) (fun w1 hs => ?_) ?_
      · have := rnode_build ⟨true, r, []⟩ a' none c' 0 (show r.length ≤ 2147483648 by omega) (by simp) w1 ⟨own_rd hs List.mem_cons_self, Rd.nil _ _ _ _⟩
        rw [hbe] at this
        exact this
      by_cases k1 : be = 0
      · by_cases k2 : bb = s
        · rw [if_pos ⟨k1, k2⟩] at hpv
          rw [hpv] at hQ
          simp -implicitDefEqProofs (disch := omega) only [go_sem, q0, q2, q4, q5, q8, k1, k2, decide_true]
          exact hQ _ _ fun w' hs => ⟨_, Sat.drop34 hs, _, rfl, a', c', none, 0, rfl, hc', Nat.le_refl _, rfl⟩
        · rw [if_neg (fun h => k2 h.2)] at hpv
          rw [hpv] at hQ
          simp -implicitDefEqProofs (disch := omega) only [go_sem, q0, q2, q4, q5, q8, k1, k2, decide_true, decide_false]
          exact hQ _ _ fun w' hs => hfail 4 w' _ hs (by simp)
      · rw [if_neg (fun h => k1 h.1)] at hpv
        rw [hpv] at hQ
        simp -implicitDefEqProofs (disch := omega) only [go_sem, q0, q2, q4, q5, q8, k1, decide_false]
        exact hQ _ _ fun w' hs => hfail 4 w' _ hs (by simp)
    · simp -implicitDefEqProofs (disch := omega) only [go_sem, q0, q2, q4, q5, q8, hz, decide_false]
      rw [← hl2] at hc' hcl ⊢
      refine RCall_eqS (u := .tuple #[str bb, .int .i64 be]) (fun w1 hs => ?_) ?_
      · have := rnode_build ⟨true, r, []⟩ a' none c' 0 (show r.length ≤ 2147483648 by omega) (by simp) w1 ⟨own_rd hs List.mem_cons_self, Rd.nil _ _ _ _⟩
        rw [hbe] at this
        exact this
      by_cases k1 : be = 0
      · by_cases k2 : bb = s
        · rw [if_pos ⟨k1, k2⟩] at hpv
          rw [hpv] at hQ
          simp -implicitDefEqProofs (disch := omega) only [go_sem, q0, q2, q4, q5, q8, k1, k2, decide_true]
          exact hQ _ _ fun w' hs => ⟨_, Sat.drop34 hs, _, rfl, a', c', none, 0, rfl, hc', Nat.le_refl _, rfl⟩
        · rw [if_neg (fun h => k2 h.2)] at hpv
          rw [hpv] at hQ
          simp -implicitDefEqProofs (disch := omega) only [go_sem, q0, q2, q4, q5, q8, k1, k2, decide_true, decide_false]
          exact hQ _ _ fun w' hs => hfail 4 w' _ hs (by simp)
      · rw [if_neg (fun h => k1 h.1)] at hpv
        rw [hpv] at hQ
        simp -implicitDefEqProofs (disch := omega) only [go_sem, q0, q2, q4, q5, q8, k1, decide_false]
        exact hQ _ _ fun w' hs => hfail 4 w' _ hs (by simp)
  | false =>
    have hlf' : decide (s.getD 0 0 = 1) = false := hlf
    have hun : Nd.unp s = ⟨false, [], Nd.kidsTo s (Nd.cnt s)⟩ := by unfold Nd.unp; rw [hlf]; rfl
    rw [hlf']
    refine RLoop_intro (fun f h => f 0 = str s ∧ f 2 = .pointer (some ⟨g1, 0, none⟩) ∧ f 4 = .pointer (some ⟨g2, 0, none⟩) ∧ f 5 = .int .i64 (Nd.cnt s : Int) ∧ f 6 = .int .i64 0 ∧ h = [.cells g2 25 #[.bool false, .slice none 0 0, .slice none 0 0], .cells g1 25 #[.bool false, .slice none 0 0, .slice none 0 0], .anchor w []]) (fun f _ => 0) ?_ ?_
    · exact ⟨by (first | (simp -implicitDefEqProofs (disch := omega) only [go_sem]; done) | (simp -implicitDefEqProofs (disch := omega) only [go_sem]; rfl)), by (first | (simp -implicitDefEqProofs (disch := omega) only [go_sem]; done) | (simp -implicitDefEqProofs (disch := omega) only [go_sem]; rfl)), by (first | (simp -implicitDefEqProofs (disch := omega) only [go_sem]; done) | (simp -implicitDefEqProofs (disch := omega) only [go_sem]; rfl)), by (first | (simp -implicitDefEqProofs (disch := omega) only [go_sem]; done) | (simp -implicitDefEqProofs (disch := omega) only [go_sem]; rfl)), by (first | (simp -implicitDefEqProofs (disch := omega) only [go_sem]; done) | (simp -implicitDefEqProofs (disch := omega) only [go_sem]; rfl)), rfl⟩
    rintro f h ⟨q0, q2, q4, q5, q6, rfl⟩ Q' _
    by_cases hz : (0 : Int) < (Nd.cnt s : Int)
    · simp -implicitDefEqProofs (disch := omega) only [go_sem, q0, q2, q4, q5, q6, hz, decide_true]
      refine RLoop_from (fun f h => ∃ (i : Nat) (a' : Option Addr) (c' : Nat), i ≤ Nd.cnt s ∧ i ≤ 20 ∧ i ≤ c' ∧ f 0 = str s ∧ f 2 = .pointer (some ⟨g1, 0, none⟩) ∧ f 4 = .pointer (some ⟨g2, 0, none⟩) ∧ f 5 = .int .i64 (Nd.cnt s : Int) ∧ f 8 = .int .i64 (i : Int) ∧
        h = [Own 27 3 (.slice none 0 0) 0 [], Own 65 3 (.slice a' i c') i ((Nd.kidsTo s i).flatMap Tok.tkC), .cells g2 25 #[.bool false, .slice none 0 0, .slice a' i c'], .cells g1 25 #[.bool false, .slice none 0 0, .slice none 0 0], .anchor w []]) (fun f _ => (Nd.cnt s - ival (f 8)).toNat) ?_ ?_
      · exact fun w1 hs => ⟨_, (hs.own_nil 65 3).own_nil 27 3, 0, none, 0, by omega, by omega, by omega, by (first | (simp -implicitDefEqProofs (disch := omega) only [go_sem, q0]; done) | (simp -implicitDefEqProofs (disch := omega) only [go_sem, q0]; rfl)), by (first | (simp -implicitDefEqProofs (disch := omega) only [go_sem, q2]; done) | (simp -implicitDefEqProofs (disch := omega) only [go_sem, q2]; rfl)), by (first | (simp -implicitDefEqProofs (disch := omega) only [go_sem, q4]; done) | (simp -implicitDefEqProofs (disch := omega) only [go_sem, q4]; rfl)), by (first | (simp -implicitDefEqProofs (disch := omega) only [go_sem, q5]; done) | (simp -implicitDefEqProofs (disch := omega) only [go_sem, q5]; rfl)), by (first | (simp -implicitDefEqProofs (disch := omega) only [go_sem]; done) | (simp -implicitDefEqProofs (disch := omega) only [go_sem]; rfl)), rfl⟩
      clear q0 q2 q4 q5 q6 hz
      rintro f h ⟨i, a', c', hi, hi20, hc', e0, e2, e4, e5, e8, rfl⟩ Q' hQ'
      by_cases hil : i < Nd.cnt s
      · have g1' : (i : Int) < (Nd.cnt s : Int) := by omega
        have g21 : (i : Int) < 21 := by omega
        by_cases h20 : i = 20
        · have hp : Nd.parse s = (Nd.n0, 4) := by
            have hnr : Nd.right (Nd.unp s) = false := by rw [hun]; exact Nd.not_right_k (by rw [Nd.kidsTo_len]; omega)
            have : be = 4 := by
              have h2 := hbe
              unfold Nd.build at h2
              rw [if_neg (by rw [hnr]; simp)] at h2
              injection h2 with _ h3; exact h3.symm
            rw [hpv, if_neg (by rw [this]; omega)]
          rw [hp] at hQ
          have gbig : (252 : Int) < 2 + 12 * (i : Int) + 12 := by omega
          simp -implicitDefEqProofs (disch := omega) only [go_sem, e0, e2, e4, e5, e8, g1', g21, gbig, decide_true]
          exact hQ _ _ fun w' hs => hfail 4 w' _ hs (by simp)
        have gsm : ¬ (252 : Int) < 2 + 12 * (i : Int) + 12 := by omega
        have hrow := Nd.kidsTo_succ s i
        obtain ⟨n1, n2, n3⟩ := Nd.num_k s i hlen (by omega)
        generalize hx : Nd.kAt s i = x at *
        have c1 : ∀ w, Does Try.prog 39 #[str s, .int .i64 (2 + 12 * (i : Int)), .int .i64 4] w fun v w' => v = .int .i64 x.1 ∧ Ext [] w w' := n1 ▸ rnode_number s hsl (2 + 12 * (i : Int)) 4 (by omega)
        have c2 : ∀ w, Does Try.prog 39 #[str s, .int .i64 (2 + 12 * (i : Int) + 4), .int .i64 4] w fun v w' => v = .int .i64 x.2.1 ∧ Ext [] w w' := n2 ▸ rnode_number s hsl (2 + 12 * (i : Int) + 4) 4 (by omega)
        have c3 : ∀ w, Does Try.prog 39 #[str s, .int .i64 (2 + 12 * (i : Int) + 8), .int .i64 4] w fun v w' => v = .int .i64 x.2.2 ∧ Ext [] w w' := n3 ▸ rnode_number s hsl (2 + 12 * (i : Int) + 8) 4 (by omega)
        simp -implicitDefEqProofs (disch := omega) only [go_sem, e0, e2, e4, e5, e8, g1', g21, gsm, decide_true, decide_false]
        generalize hH : [Own 27 3 (.slice none 0 0) 0 [], Own 65 3 (.slice a' i c') i ((Nd.kidsTo s i).flatMap Tok.tkC), .cells g2 25 #[.bool false, .slice none 0 0, .slice a' i c'], .cells g1 25 #[.bool false, .slice none 0 0, .slice none 0 0], .anchor w []] = H at *
        refine RDraw_seg (by kernel_rfl) (by kernel_rfl) 18 rfl ?_
        refine RS_cutR [0, 2, 3, 5, 6, 7, 9, 10, 11, 16] [1, 4, 8, 12, 13, 14, 15, 17] (by decide +kernel) ?_
        refine RS_det (by kernel_rfl) ?_
        repeat (first | refine ToO_step (fun Q hq => by (simp -implicitDefEqProofs (disch := omega) only [go_sem, e0, e2, e4, e5, e8]; exact hq)) ?_ | refine ToO_guard (by (simp -implicitDefEqProofs only [go_sem, e0, e2, e4, e5, e8]; first | done | fail)) (fun Q hq => by (simp -implicitDefEqProofs (disch := omega) only [go_sem, e0, e2, e4, e5, e8]; exact hq)) ?_ | refine ToO_skip (.inl (by (simp -implicitDefEqProofs only [go_sem, e0, e2, e4, e5, e8]; first | done | fail))) ?_ | refine ToO_skip (.inr (by (simp -implicitDefEqProofs only [go_sem, e0, e2, e4, e5, e8]; first | done | fail))) ?_)
        refine ToO_nil ?_
        refine RS_via [15, 17] (fun f h => ∃ gn, g2 ≠ gn ∧ f 0 = str s ∧ f 2 = .pointer (some ⟨g1, 0, none⟩) ∧ f 4 = .pointer (some ⟨g2, 0, none⟩) ∧ f 5 = .int .i64 (Nd.cnt s : Int) ∧ f 8 = .int .i64 (i : Int) ∧ f 83 = .slice a' i c' ∧ f 96 = .slice (some ⟨gn, 0, none⟩) 1 1 ∧ f 98 = .pointer (some ⟨g2, 2, none⟩) ∧
          h = .cells gn 65 (List.toArray [.int .i64 x.1, .int .i64 x.2.1, .int .i64 x.2.2]) :: H) (fun K' hI => ?_) ?_
        · subst hH
          refine RS_first [1, 4] (by kernel_rfl) ⟨?_, ?_, trivial⟩
          · simp -implicitDefEqProofs (disch := omega) only [go_sem, e0, e2, e4, e5, e8]
            refine RS_cut [4, 8, 12, 13, 14] [15, 17] (by kernel_rfl) ?_
            refine RS_text (L := [4, 8, 12, 13, 14]) (by kernel_rfl) ?_
            simp -implicitDefEqProofs (disch := omega) only [go_sem, e0, e2, e4, e5, e8]
            refine RCall_eq c1 ?_
            try simp -implicitDefEqProofs (disch := omega) only [go_sem, e0, e2, e4, e5, e8]
            refine RCall_eq c2 ?_
            try simp -implicitDefEqProofs (disch := omega) only [go_sem, e0, e2, e4, e5, e8]
            refine RCall_eq c3 ?_
            try simp -implicitDefEqProofs (disch := omega) only [go_sem, e0, e2, e4, e5, e8]
            refine RRun_build1z (cs := [.int .i64 x.1, .int .i64 x.2.1, .int .i64 x.2.2]) rkids_sl rfl (by omega) fun gn hgn => ?_
            have ngn : g2 ≠ gn := by obtain ⟨_, _, h, _⟩ := hgn; exact Nat.ne_of_lt h
            try simp -implicitDefEqProofs (disch := omega) only [go_sem, e0, e2, e4, e5, e8]
            exact hI _ _ ⟨gn, ngn, by (first | (simp -implicitDefEqProofs (disch := omega) only [go_sem, e0, e2, e4, e5, e8]; done) | (simp -implicitDefEqProofs (disch := omega) only [go_sem, e0, e2, e4, e5, e8]; rfl)), by (first | (simp -implicitDefEqProofs (disch := omega) only [go_sem, e0, e2, e4, e5, e8]; done) | (simp -implicitDefEqProofs (disch := omega) only [go_sem, e0, e2, e4, e5, e8]; rfl)), by (first | (simp -implicitDefEqProofs (disch := omega) only [go_sem, e0, e2, e4, e5, e8]; done) | (simp -implicitDefEqProofs (disch := omega) only [go_sem, e0, e2, e4, e5, e8]; rfl)), by (first | (simp -implicitDefEqProofs (disch := omega) only [go_sem, e0, e2, e4, e5, e8]; done) | (simp -implicitDefEqProofs (disch := omega) only [go_sem, e0, e2, e4, e5, e8]; rfl)), by (first | (simp -implicitDefEqProofs (disch := omega) only [go_sem, e0, e2, e4, e5, e8]; done) | (simp -implicitDefEqProofs (disch := omega) only [go_sem, e0, e2, e4, e5, e8]; rfl)), by (first | (simp -implicitDefEqProofs (disch := omega) only [go_sem, e0, e2, e4, e5, e8]; done) | (simp -implicitDefEqProofs (disch := omega) only [go_sem, e0, e2, e4, e5, e8]; rfl)), by (first | (simp -implicitDefEqProofs (disch := omega) only [go_sem, e0, e2, e4, e5, e8]; done) | (simp -implicitDefEqProofs (disch := omega) only [go_sem, e0, e2, e4, e5, e8]; rfl)), by (first | (simp -implicitDefEqProofs (disch := omega) only [go_sem, e0, e2, e4, e5, e8]; done) | (simp -implicitDefEqProofs (disch := omega) only [go_sem, e0, e2, e4, e5, e8]; rfl)), rfl⟩
          · simp -implicitDefEqProofs (disch := omega) only [go_sem, e0, e2, e4, e5, e8]
            refine RCall_eq c1 ?_
            try simp -implicitDefEqProofs (disch := omega) only [go_sem, e0, e2, e4, e5, e8]
            refine RS_first [1, 8] (by kernel_rfl) ⟨?_, ?_, trivial⟩
            · simp -implicitDefEqProofs (disch := omega) only [go_sem, e0, e2, e4, e5, e8]
              refine RS_cut [8, 12, 13, 14] [15, 17] (by kernel_rfl) ?_
              refine RS_text (L := [8, 12, 13, 14]) (by kernel_rfl) ?_
              simp -implicitDefEqProofs (disch := omega) only [go_sem, e0, e2, e4, e5, e8]
              refine RCall_eq c2 ?_
              try simp -implicitDefEqProofs (disch := omega) only [go_sem, e0, e2, e4, e5, e8]
              refine RCall_eq c3 ?_
              try simp -implicitDefEqProofs (disch := omega) only [go_sem, e0, e2, e4, e5, e8]
              refine RRun_build1z (cs := [.int .i64 x.1, .int .i64 x.2.1, .int .i64 x.2.2]) rkids_sl rfl (by omega) fun gn hgn => ?_
              have ngn : g2 ≠ gn := by obtain ⟨_, _, h, _⟩ := hgn; exact Nat.ne_of_lt h
              try simp -implicitDefEqProofs (disch := omega) only [go_sem, e0, e2, e4, e5, e8]
              exact hI _ _ ⟨gn, ngn, by (first | (simp -implicitDefEqProofs (disch := omega) only [go_sem, e0, e2, e4, e5, e8]; done) | (simp -implicitDefEqProofs (disch := omega) only [go_sem, e0, e2, e4, e5, e8]; rfl)), by (first | (simp -implicitDefEqProofs (disch := omega) only [go_sem, e0, e2, e4, e5, e8]; done) | (simp -implicitDefEqProofs (disch := omega) only [go_sem, e0, e2, e4, e5, e8]; rfl)), by (first | (simp -implicitDefEqProofs (disch := omega) only [go_sem, e0, e2, e4, e5, e8]; done) | (simp -implicitDefEqProofs (disch := omega) only [go_sem, e0, e2, e4, e5, e8]; rfl)), by (first | (simp -implicitDefEqProofs (disch := omega) only [go_sem, e0, e2, e4, e5, e8]; done) | (simp -implicitDefEqProofs (disch := omega) only [go_sem, e0, e2, e4, e5, e8]; rfl)), by (first | (simp -implicitDefEqProofs (disch := omega) only [go_sem, e0, e2, e4, e5, e8]; done) | (simp -implicitDefEqProofs (disch := omega) only [go_sem, e0, e2, e4, e5, e8]; rfl)), by (first | (simp -implicitDefEqProofs (disch := omega) only [go_sem, e0, e2, e4, e5, e8]; done) | (simp -implicitDefEqProofs (disch := omega) only [go_sem, e0, e2, e4, e5, e8]; rfl)), by (first | (simp -implicitDefEqProofs (disch := omega) only [go_sem, e0, e2, e4, e5, e8]; done) | (simp -implicitDefEqProofs (disch := omega) only [go_sem, e0, e2, e4, e5, e8]; rfl)), by (first | (simp -implicitDefEqProofs (disch := omega) only [go_sem, e0, e2, e4, e5, e8]; done) | (simp -implicitDefEqProofs (disch := omega) only [go_sem, e0, e2, e4, e5, e8]; rfl)), rfl⟩
            · simp -implicitDefEqProofs (disch := omega) only [go_sem, e0, e2, e4, e5, e8]
              refine RCall_eq c2 ?_
              try simp -implicitDefEqProofs (disch := omega) only [go_sem, e0, e2, e4, e5, e8]
              refine RS_first [1, 12] (by kernel_rfl) ⟨?_, ?_, trivial⟩
              · simp -implicitDefEqProofs (disch := omega) only [go_sem, e0, e2, e4, e5, e8]
                refine RS_cut [12, 13, 14] [15, 17] (by kernel_rfl) ?_
                refine RS_text (L := [12, 13, 14]) (by kernel_rfl) ?_
                simp -implicitDefEqProofs (disch := omega) only [go_sem, e0, e2, e4, e5, e8]
                refine RCall_eq c3 ?_
                try simp -implicitDefEqProofs (disch := omega) only [go_sem, e0, e2, e4, e5, e8]
                refine RRun_build1z (cs := [.int .i64 x.1, .int .i64 x.2.1, .int .i64 x.2.2]) rkids_sl rfl (by omega) fun gn hgn => ?_
                have ngn : g2 ≠ gn := by obtain ⟨_, _, h, _⟩ := hgn; exact Nat.ne_of_lt h
                try simp -implicitDefEqProofs (disch := omega) only [go_sem, e0, e2, e4, e5, e8]
                exact hI _ _ ⟨gn, ngn, by (first | (simp -implicitDefEqProofs (disch := omega) only [go_sem, e0, e2, e4, e5, e8]; done) | (simp -implicitDefEqProofs (disch := omega) only [go_sem, e0, e2, e4, e5, e8]; rfl)), by (first | (simp -implicitDefEqProofs (disch := omega) only [go_sem, e0, e2, e4, e5, e8]; done) | (simp -implicitDefEqProofs (disch := omega) only [go_sem, e0, e2, e4, e5, e8]; rfl)), by (first | (simp -implicitDefEqProofs (disch := omega) only [go_sem, e0, e2, e4, e5, e8]; done) | (simp -implicitDefEqProofs (disch := omega) only [go_sem, e0, e2, e4, e5, e8]; rfl)), by (first | (simp -implicitDefEqProofs (disch := omega) only [go_sem, e0, e2, e4, e5, e8]; done) | (simp -implicitDefEqProofs (disch := omega) only [go_sem, e0, e2, e4, e5, e8]; rfl)), by (first | (simp -implicitDefEqProofs (disch := omega) only [go_sem, e0, e2, e4, e5, e8]; done) | (simp -implicitDefEqProofs (disch := omega) only [go_sem, e0, e2, e4, e5, e8]; rfl)), by (first | (simp -implicitDefEqProofs (disch := omega) only [go_sem, e0, e2, e4, e5, e8]; done) | (simp -implicitDefEqProofs (disch := omega) only [go_sem, e0, e2, e4, e5, e8]; rfl)), by (first | (simp -implicitDefEqProofs (disch := omega) only [go_sem, e0, e2, e4, e5, e8]; done) | (simp -implicitDefEqProofs (disch := omega) only [go_sem, e0, e2, e4, e5, e8]; rfl)), by (first | (simp -implicitDefEqProofs (disch := omega) only [go_sem, e0, e2, e4, e5, e8]; done) | (simp -implicitDefEqProofs (disch := omega) only [go_sem, e0, e2, e4, e5, e8]; rfl)), rfl⟩
              · simp -implicitDefEqProofs (disch := omega) only [go_sem, e0, e2, e4, e5, e8]
                refine RCall_eq c3 ?_
                try simp -implicitDefEqProofs (disch := omega) only [go_sem, e0, e2, e4, e5, e8]
                refine RS_first [1, 13] (by kernel_rfl) ⟨?_, ?_, trivial⟩
                · simp -implicitDefEqProofs (disch := omega) only [go_sem, e0, e2, e4, e5, e8]
                  refine RS_cut [13, 14] [15, 17] (by kernel_rfl) ?_
                  refine RS_text (L := [13, 14]) (by kernel_rfl) ?_
                  simp -implicitDefEqProofs (disch := omega) only [go_sem, e0, e2, e4, e5, e8]
                  refine RRun_build1z (cs := [.int .i64 x.1, .int .i64 x.2.1, .int .i64 x.2.2]) rkids_sl rfl (by omega) fun gn hgn => ?_
                  have ngn : g2 ≠ gn := by obtain ⟨_, _, h, _⟩ := hgn; exact Nat.ne_of_lt h
                  try simp -implicitDefEqProofs (disch := omega) only [go_sem, e0, e2, e4, e5, e8]
                  exact hI _ _ ⟨gn, ngn, by (first | (simp -implicitDefEqProofs (disch := omega) only [go_sem, e0, e2, e4, e5, e8]; done) | (simp -implicitDefEqProofs (disch := omega) only [go_sem, e0, e2, e4, e5, e8]; rfl)), by (first | (simp -implicitDefEqProofs (disch := omega) only [go_sem, e0, e2, e4, e5, e8]; done) | (simp -implicitDefEqProofs (disch := omega) only [go_sem, e0, e2, e4, e5, e8]; rfl)), by (first | (simp -implicitDefEqProofs (disch := omega) only [go_sem, e0, e2, e4, e5, e8]; done) | (simp -implicitDefEqProofs (disch := omega) only [go_sem, e0, e2, e4, e5, e8]; rfl)), by (first | (simp -implicitDefEqProofs (disch := omega) only [go_sem, e0, e2, e4, e5, e8]; done) | (simp -implicitDefEqProofs (disch := omega) only [go_sem, e0, e2, e4, e5, e8]; rfl)), by (first | (simp -implicitDefEqProofs (disch := omega) only [go_sem, e0, e2, e4, e5, e8]; done) | (simp -implicitDefEqProofs (disch := omega) only [go_sem, e0, e2, e4, e5, e8]; rfl)), by (first | (simp -implicitDefEqProofs (disch := omega) only [go_sem, e0, e2, e4, e5, e8]; done) | (simp -implicitDefEqProofs (disch := omega) only [go_sem, e0, e2, e4, e5, e8]; rfl)), by (first | (simp -implicitDefEqProofs (disch := omega) only [go_sem, e0, e2, e4, e5, e8]; done) | (simp -implicitDefEqProofs (disch := omega) only [go_sem, e0, e2, e4, e5, e8]; rfl)), by (first | (simp -implicitDefEqProofs (disch := omega) only [go_sem, e0, e2, e4, e5, e8]; done) | (simp -implicitDefEqProofs (disch := omega) only [go_sem, e0, e2, e4, e5, e8]; rfl)), rfl⟩
                · simp -implicitDefEqProofs (disch := omega) only [go_sem, e0, e2, e4, e5, e8]
                  refine RS_first [1, 14] (by kernel_rfl) ⟨?_, ?_, trivial⟩
                  · simp -implicitDefEqProofs (disch := omega) only [go_sem, e0, e2, e4, e5, e8]
                    refine RS_cut [14] [15, 17] (by kernel_rfl) ?_
                    refine RS_text (L := [14]) (by kernel_rfl) ?_
                    simp -implicitDefEqProofs (disch := omega) only [go_sem, e0, e2, e4, e5, e8]
                    refine RRun_build1z (cs := [.int .i64 x.1, .int .i64 x.2.1, .int .i64 x.2.2]) rkids_sl rfl (by omega) fun gn hgn => ?_
                    have ngn : g2 ≠ gn := by obtain ⟨_, _, h, _⟩ := hgn; exact Nat.ne_of_lt h
                    try simp -implicitDefEqProofs (disch := omega) only [go_sem, e0, e2, e4, e5, e8]
                    exact hI _ _ ⟨gn, ngn, by (first | (simp -implicitDefEqProofs (disch := omega) only [go_sem, e0, e2, e4, e5, e8]; done) | (simp -implicitDefEqProofs (disch := omega) only [go_sem, e0, e2, e4, e5, e8]; rfl)), by (first | (simp -implicitDefEqProofs (disch := omega) only [go_sem, e0, e2, e4, e5, e8]; done) | (simp -implicitDefEqProofs (disch := omega) only [go_sem, e0, e2, e4, e5, e8]; rfl)), by (first | (simp -implicitDefEqProofs (disch := omega) only [go_sem, e0, e2, e4, e5, e8]; done) | (simp -implicitDefEqProofs (disch := omega) only [go_sem, e0, e2, e4, e5, e8]; rfl)), by (first | (simp -implicitDefEqProofs (disch := omega) only [go_sem, e0, e2, e4, e5, e8]; done) | (simp -implicitDefEqProofs (disch := omega) only [go_sem, e0, e2, e4, e5, e8]; rfl)), by (first | (simp -implicitDefEqProofs (disch := omega) only [go_sem, e0, e2, e4, e5, e8]; done) | (simp -implicitDefEqProofs (disch := omega) only [go_sem, e0, e2, e4, e5, e8]; rfl)), by (first | (simp -implicitDefEqProofs (disch := omega) only [go_sem, e0, e2, e4, e5, e8]; done) | (simp -implicitDefEqProofs (disch := omega) only [go_sem, e0, e2, e4, e5, e8]; rfl)), by (first | (simp -implicitDefEqProofs (disch := omega) only [go_sem, e0, e2, e4, e5, e8]; done) | (simp -implicitDefEqProofs (disch := omega) only [go_sem, e0, e2, e4, e5, e8]; rfl)), by (first | (simp -implicitDefEqProofs (disch := omega) only [go_sem, e0, e2, e4, e5, e8]; done) | (simp -implicitDefEqProofs (disch := omega) only [go_sem, e0, e2, e4, e5, e8]; rfl)), rfl⟩
                  · simp -implicitDefEqProofs (disch := omega) only [go_sem, e0, e2, e4, e5, e8]
                    refine RRun_build1z (cs := [.int .i64 x.1, .int .i64 x.2.1, .int .i64 x.2.2]) rkids_sl rfl (by omega) fun gn hgn => ?_
                    have ngn : g2 ≠ gn := by obtain ⟨_, _, h, _⟩ := hgn; exact Nat.ne_of_lt h
                    try simp -implicitDefEqProofs (disch := omega) only [go_sem, e0, e2, e4, e5, e8]
                    refine RS_cut [1] [15, 17] (by kernel_rfl) ?_
                    refine RS_text (L := [1]) (by kernel_rfl) ?_
                    simp -implicitDefEqProofs (disch := omega) only [go_sem, e0, e2, e4, e5, e8]
                    exact hI _ _ ⟨gn, ngn, by (first | (simp -implicitDefEqProofs (disch := omega) only [go_sem, e0, e2, e4, e5, e8]; done) | (simp -implicitDefEqProofs (disch := omega) only [go_sem, e0, e2, e4, e5, e8]; rfl)), by (first | (simp -implicitDefEqProofs (disch := omega) only [go_sem, e0, e2, e4, e5, e8]; done) | (simp -implicitDefEqProofs (disch := omega) only [go_sem, e0, e2, e4, e5, e8]; rfl)), by (first | (simp -implicitDefEqProofs (disch := omega) only [go_sem, e0, e2, e4, e5, e8]; done) | (simp -implicitDefEqProofs (disch := omega) only [go_sem, e0, e2, e4, e5, e8]; rfl)), by (first | (simp -implicitDefEqProofs (disch := omega) only [go_sem, e0, e2, e4, e5, e8]; done) | (simp -implicitDefEqProofs (disch := omega) only [go_sem, e0, e2, e4, e5, e8]; rfl)), by (first | (simp -implicitDefEqProofs (disch := omega) only [go_sem, e0, e2, e4, e5, e8]; done) | (simp -implicitDefEqProofs (disch := omega) only [go_sem, e0, e2, e4, e5, e8]; rfl)), by (first | (simp -implicitDefEqProofs (disch := omega) only [go_sem, e0, e2, e4, e5, e8]; done) | (simp -implicitDefEqProofs (disch := omega) only [go_sem, e0, e2, e4, e5, e8]; rfl)), by (first | (simp -implicitDefEqProofs (disch := omega) only [go_sem, e0, e2, e4, e5, e8]; done) | (simp -implicitDefEqProofs (disch := omega) only [go_sem, e0, e2, e4, e5, e8]; rfl)), by (first | (simp -implicitDefEqProofs (disch := omega) only [go_sem, e0, e2, e4, e5, e8]; done) | (simp -implicitDefEqProofs (disch := omega) only [go_sem, e0, e2, e4, e5, e8]; rfl)), rfl⟩
        · clear e0 e2 e4 e5
          rintro f' h ⟨gn, ngn, e0, e2, e4, e5, e8', e83, e96, e98, rfl⟩
          subst hH
          refine RS_text (by kernel_rfl) ?_
          simp -implicitDefEqProofs (disch := omega) only [go_sem, e0, e2, e4, e5, e8', e83, e96, e98]
          refine RRun_append_cells rkids_sl (fun _ hs => Sat.swap2 hs.2.2.2) rfl (tkC_one' x) (by omega) (by simp only [maxLen]; omega) fun a'' c'' hc'' => ?_
          simp -implicitDefEqProofs (disch := omega) only [go_sem, e0, e2, e4, e5, e8', e83, e96, e98]
          refine hQ' _ _ fun w1 hs => ⟨_, hs.swap2, ⟨i + 1, a'', c'', by omega, by omega, hc'', ?_, ?_, ?_, ?_, ?_, by rw [hrow, tkC_snoc]⟩, ?_⟩
          · (first | (simp -implicitDefEqProofs (disch := omega) only [go_sem, e0, e2, e4, e5, e8', e83, e96, e98]; done) | (simp -implicitDefEqProofs (disch := omega) only [go_sem, e0, e2, e4, e5, e8', e83, e96, e98]; rfl))
          · (first | (simp -implicitDefEqProofs (disch := omega) only [go_sem, e0, e2, e4, e5, e8', e83, e96, e98]; done) | (simp -implicitDefEqProofs (disch := omega) only [go_sem, e0, e2, e4, e5, e8', e83, e96, e98]; rfl))
          · (first | (simp -implicitDefEqProofs (disch := omega) only [go_sem, e0, e2, e4, e5, e8', e83, e96, e98]; done) | (simp -implicitDefEqProofs (disch := omega) only [go_sem, e0, e2, e4, e5, e8', e83, e96, e98]; rfl))
          · (first | (simp -implicitDefEqProofs (disch := omega) only [go_sem, e0, e2, e4, e5, e8', e83, e96, e98]; done) | (simp -implicitDefEqProofs (disch := omega) only [go_sem, e0, e2, e4, e5, e8', e83, e96, e98]; rfl))
          · (first | (simp -implicitDefEqProofs (disch := omega) only [go_sem, e0, e2, e4, e5, e8', e83, e96, e98]; done) | (simp -implicitDefEqProofs (disch := omega) only [go_sem, e0, e2, e4, e5, e8', e83, e96, e98]; rfl))
          · simp -implicitDefEqProofs (disch := omega) only [go_sem, e0, e2, e4, e5, e8', e83, e96, e98, e8]; omega
      have g1' : ¬ (i : Int) < (Nd.cnt s : Int) := by omega
      obtain rfl : i = Nd.cnt s := by omega
      have hl2 := Nd.kidsTo_len s (Nd.cnt s)
      rw [hun] at hbe
      rw [hun] at hpv
      generalize Nd.kidsTo s (Nd.cnt s) = r at *
      simp -implicitDefEqProofs (disch := omega) only [go_sem, e0, e2, e4, e5, e8, g1', decide_false]
      rw [← hl2] at hc' hcl ⊢
      refine RCall_eqS (u := .tuple #[str bb, .int .i64 be]) (fun w1 hs => ?_) ?_
      · have := rnode_build ⟨false, [], r⟩ none a' 0 c' (by simp) (show r.length ≤ 2147483648 by omega) w1 ⟨Rd.nil _ _ _ _, own_rd hs (List.mem_cons_of_mem _ List.mem_cons_self)⟩
        rw [hbe] at this
        exact this
      by_cases k1 : be = 0
      · by_cases k2 : bb = s
        · rw [if_pos ⟨k1, k2⟩] at hpv
          rw [hpv] at hQ
          simp -implicitDefEqProofs (disch := omega) only [go_sem, e0, e2, e4, e5, e8, k1, k2, decide_true]
          exact hQ _ _ fun w' hs => ⟨_, Sat.drop34 hs, _, rfl, none, 0, a', c', rfl, Nat.le_refl _, hc', rfl⟩
        · rw [if_neg (fun h => k2 h.2)] at hpv
          rw [hpv] at hQ
          simp -implicitDefEqProofs (disch := omega) only [go_sem, e0, e2, e4, e5, e8, k1, k2, decide_true, decide_false]
          exact hQ _ _ fun w' hs => hfail 4 w' _ hs (by simp)
      · rw [if_neg (fun h => k1 h.1)] at hpv
        rw [hpv] at hQ
        simp -implicitDefEqProofs (disch := omega) only [go_sem, e0, e2, e4, e5, e8, k1, decide_false]
        exact hQ _ _ fun w' hs => hfail 4 w' _ hs (by simp)
    · simp -implicitDefEqProofs (disch := omega) only [go_sem, q0, q2, q4, q5, q6, hz, decide_false]
      refine RLoop_from (fun f h => ∃ (i : Nat) (a' : Option Addr) (c' : Nat), i ≤ Nd.cnt s ∧ i ≤ 20 ∧ i ≤ c' ∧ f 0 = str s ∧ f 2 = .pointer (some ⟨g1, 0, none⟩) ∧ f 4 = .pointer (some ⟨g2, 0, none⟩) ∧ f 5 = .int .i64 (Nd.cnt s : Int) ∧ f 8 = .int .i64 (i : Int) ∧
        h = [Own 27 3 (.slice none 0 0) 0 [], Own 65 3 (.slice a' i c') i ((Nd.kidsTo s i).flatMap Tok.tkC), .cells g2 25 #[.bool false, .slice none 0 0, .slice a' i c'], .cells g1 25 #[.bool false, .slice none 0 0, .slice none 0 0], .anchor w []]) (fun f _ => (Nd.cnt s - ival (f 8)).toNat) ?_ ?_
      · exact fun w1 hs => ⟨_, (hs.own_nil 65 3).own_nil 27 3, 0, none, 0, by omega, by omega, by omega, by (first | (simp -implicitDefEqProofs (disch := omega) only [go_sem, q0]; done) | (simp -implicitDefEqProofs (disch := omega) only [go_sem, q0]; rfl)), by (first | (simp -implicitDefEqProofs (disch := omega) only [go_sem, q2]; done) | (simp -implicitDefEqProofs (disch := omega) only [go_sem, q2]; rfl)), by (first | (simp -implicitDefEqProofs (disch := omega) only [go_sem, q4]; done) | (simp -implicitDefEqProofs (disch := omega) only [go_sem, q4]; rfl)), by (first | (simp -implicitDefEqProofs (disch := omega) only [go_sem, q5]; done) | (simp -implicitDefEqProofs (disch := omega) only [go_sem, q5]; rfl)), by (first | (simp -implicitDefEqProofs (disch := omega) only [go_sem]; done) | (simp -implicitDefEqProofs (disch := omega) only [go_sem]; rfl)), rfl⟩
      clear q0 q2 q4 q5 q6 hz
      rintro f h ⟨i, a', c', hi, hi20, hc', e0, e2, e4, e5, e8, rfl⟩ Q' hQ'
      by_cases hil : i < Nd.cnt s
      · have g1' : (i : Int) < (Nd.cnt s : Int) := by omega
        have g21 : (i : Int) < 21 := by omega
        by_cases h20 : i = 20
        · have hp : Nd.parse s = (Nd.n0, 4) := by
            have hnr : Nd.right (Nd.unp s) = false := by rw [hun]; exact Nd.not_right_k (by rw [Nd.kidsTo_len]; omega)
            have : be = 4 := by
              have h2 := hbe
              unfold Nd.build at h2
              rw [if_neg (by rw [hnr]; simp)] at h2
              injection h2 with _ h3; exact h3.symm
            rw [hpv, if_neg (by rw [this]; omega)]
          rw [hp] at hQ
          have gbig : (252 : Int) < 2 + 12 * (i : Int) + 12 := by omega
          simp -implicitDefEqProofs (disch := omega) only [go_sem, e0, e2, e4, e5, e8, g1', g21, gbig, decide_true]
          exact hQ _ _ fun w' hs => hfail 4 w' _ hs (by simp)
        have gsm : ¬ (252 : Int) < 2 + 12 * (i : Int) + 12 := by omega
        have hrow := Nd.kidsTo_succ s i
        obtain ⟨n1, n2, n3⟩ := Nd.num_k s i hlen (by omega)
        generalize hx : Nd.kAt s i = x at *
        have c1 : ∀ w, Does Try.prog 39 #[str s, .int .i64 (2 + 12 * (i : Int)), .int .i64 4] w fun v w' => v = .int .i64 x.1 ∧ Ext [] w w' := n1 ▸ rnode_number s hsl (2 + 12 * (i : Int)) 4 (by omega)
        have c2 : ∀ w, Does Try.prog 39 #[str s, .int .i64 (2 + 12 * (i : Int) + 4), .int .i64 4] w fun v w' => v = .int .i64 x.2.1 ∧ Ext [] w w' := n2 ▸ rnode_number s hsl (2 + 12 * (i : Int) + 4) 4 (by omega)
        have c3 : ∀ w, Does Try.prog 39 #[str s, .int .i64 (2 + 12 * (i : Int) + 8), .int .i64 4] w fun v w' => v = .int .i64 x.2.2 ∧ Ext [] w w' := n3 ▸ rnode_number s hsl (2 + 12 * (i : Int) + 8) 4 (by omega)
        simp -implicitDefEqProofs (disch := omega) only [go_sem, e0, e2, e4, e5, e8, g1', g21, gsm, decide_true, decide_false]
        generalize hH : [Own 27 3 (.slice none 0 0) 0 [], Own 65 3 (.slice a' i c') i ((Nd.kidsTo s i).flatMap Tok.tkC), .cells g2 25 #[.bool false, .slice none 0 0, .slice a' i c'], .cells g1 25 #[.bool false, .slice none 0 0, .slice none 0 0], .anchor w []] = H at *
        refine RDraw_seg (by kernel_rfl) (by kernel_rfl) 18 rfl ?_
        refine RS_cutR [0, 2, 3, 5, 6, 7, 9, 10, 11, 16] [1, 4, 8, 12, 13, 14, 15, 17] (by decide +kernel) ?_
        refine RS_det (by kernel_rfl) ?_
        repeat (first | refine ToO_step (fun Q hq => by (simp -implicitDefEqProofs (disch := omega) only [go_sem, e0, e2, e4, e5, e8]; exact hq)) ?_ | refine ToO_guard (by (simp -implicitDefEqProofs only [go_sem, e0, e2, e4, e5, e8]; first | done | fail)) (fun Q hq => by (simp -implicitDefEqProofs (disch := omega) only [go_sem, e0, e2, e4, e5, e8]; exact hq)) ?_ | refine ToO_skip (.inl (by (simp -implicitDefEqProofs only [go_sem, e0, e2, e4, e5, e8]; first | done | fail))) ?_ | refine ToO_skip (.inr (by (simp -implicitDefEqProofs only [go_sem, e0, e2, e4, e5, e8]; first | done | fail))) ?_)
        refine ToO_nil ?_
        refine RS_via [15, 17] (fun f h => ∃ gn, g2 ≠ gn ∧ f 0 = str s ∧ f 2 = .pointer (some ⟨g1, 0, none⟩) ∧ f 4 = .pointer (some ⟨g2, 0, none⟩) ∧ f 5 = .int .i64 (Nd.cnt s : Int) ∧ f 8 = .int .i64 (i : Int) ∧ f 83 = .slice a' i c' ∧ f 96 = .slice (some ⟨gn, 0, none⟩) 1 1 ∧ f 98 = .pointer (some ⟨g2, 2, none⟩) ∧
          h = .cells gn 65 (List.toArray [.int .i64 x.1, .int .i64 x.2.1, .int .i64 x.2.2]) :: H) (fun K' hI => ?_) ?_
        · subst hH
          refine RS_first [1, 4] (by kernel_rfl) ⟨?_, ?_, trivial⟩
          · simp -implicitDefEqProofs (disch := omega) only [go_sem, e0, e2, e4, e5, e8]
            refine RS_cut [4, 8, 12, 13, 14] [15, 17] (by kernel_rfl) ?_
            refine RS_text (L := [4, 8, 12, 13, 14]) (by kernel_rfl) ?_
            simp -implicitDefEqProofs (disch := omega) only [go_sem, e0, e2, e4, e5, e8]
            refine RCall_eq c1 ?_
            try simp -implicitDefEqProofs (disch := omega) only [go_sem, e0, e2, e4, e5, e8]
            refine RCall_eq c2 ?_
            try simp -implicitDefEqProofs (disch := omega) only [go_sem, e0, e2, e4, e5, e8]
            refine RCall_eq c3 ?_
            try simp -implicitDefEqProofs (disch := omega) only [go_sem, e0, e2, e4, e5, e8]
            refine RRun_build1z (cs := [.int .i64 x.1, .int .i64 x.2.1, .int .i64 x.2.2]) rkids_sl rfl (by omega) fun gn hgn => ?_
            have ngn : g2 ≠ gn := by obtain ⟨_, _, h, _⟩ := hgn; exact Nat.ne_of_lt h
            try simp -implicitDefEqProofs (disch := omega) only [go_sem, e0, e2, e4, e5, e8]
            exact hI _ _ ⟨gn, ngn, by (first | (simp -implicitDefEqProofs (disch := omega) only [go_sem, e0, e2, e4, e5, e8]; done) | (simp -implicitDefEqProofs (disch := omega) only [go_sem, e0, e2, e4, e5, e8]; rfl)), by (first | (simp -implicitDefEqProofs (disch := omega) only [go_sem, e0, e2, e4, e5, e8]; done) | (simp -implicitDefEqProofs (disch := omega) only [go_sem, e0, e2, e4, e5, e8]; rfl)), by (first | (simp -implicitDefEqProofs (disch := omega) only [go_sem, e0, e2, e4, e5, e8]; done) | (simp -implicitDefEqProofs (disch := omega) only [go_sem, e0, e2, e4, e5, e8]; rfl)), by (first | (simp -implicitDefEqProofs (disch := omega) only [go_sem, e0, e2, e4, e5, e8]; done) | (simp -implicitDefEqProofs (disch := omega) only [go_sem, e0, e2, e4, e5, e8]; rfl)), by (first | (simp -implicitDefEqProofs (disch := omega) only [go_sem, e0, e2, e4, e5, e8]; done) | (simp -implicitDefEqProofs (disch := omega) only [go_sem, e0, e2, e4, e5, e8]; rfl)), by (first | (simp -implicitDefEqProofs (disch := omega) only [go_sem, e0, e2, e4, e5, e8]; done) | (simp -implicitDefEqProofs (disch := omega) only [go_sem, e0, e2, e4, e5, e8]; rfl)), by (first | (simp -implicitDefEqProofs (disch := omega) only [go_sem, e0, e2, e4, e5, e8]; done) | (simp -implicitDefEqProofs (disch := omega) only [go_sem, e0, e2, e4, e5, e8]; rfl)), by (first | (simp -implicitDefEqProofs (disch := omega) only [go_sem, e0, e2, e4, e5, e8]; done) | (simp -implicitDefEqProofs (disch := omega) only [go_sem, e0, e2, e4, e5, e8]; rfl)), rfl⟩
          · simp -implicitDefEqProofs (disch := omega) only [go_sem, e0, e2, e4, e5, e8]
            refine RCall_eq c1 ?_
            try simp -implicitDefEqProofs (disch := omega) only [go_sem, e0, e2, e4, e5, e8]
            refine RS_first [1, 8] (by kernel_rfl) ⟨?_, ?_, trivial⟩
            · simp -implicitDefEqProofs (disch := omega) only [go_sem, e0, e2, e4, e5, e8]
              refine RS_cut [8, 12, 13, 14] [15, 17] (by kernel_rfl) ?_
              refine RS_text (L := [8, 12, 13, 14]) (by kernel_rfl) ?_
              simp -implicitDefEqProofs (disch := omega) only [go_sem, e0, e2, e4, e5, e8]
              refine RCall_eq c2 ?_
              try simp -implicitDefEqProofs (disch := omega) only [go_sem, e0, e2, e4, e5, e8]
              refine RCall_eq c3 ?_
              try simp -implicitDefEqProofs (disch := omega) only [go_sem, e0, e2, e4, e5, e8]
              refine RRun_build1z (cs := [.int .i64 x.1, .int .i64 x.2.1, .int .i64 x.2.2]) rkids_sl rfl (by omega) fun gn hgn => ?_
              have ngn : g2 ≠ gn := by obtain ⟨_, _, h, _⟩ := hgn; exact Nat.ne_of_lt h
              try simp -implicitDefEqProofs (disch := omega) only [go_sem, e0, e2, e4, e5, e8]
              exact hI _ _ ⟨gn, ngn, by (first | (simp -implicitDefEqProofs (disch := omega) only [go_sem, e0, e2, e4, e5, e8]; done) | (simp -implicitDefEqProofs (disch := omega) only [go_sem, e0, e2, e4, e5, e8]; rfl)), by (first | (simp -implicitDefEqProofs (disch := omega) only [go_sem, e0, e2, e4, e5, e8]; done) | (simp -implicitDefEqProofs (disch := omega) only [go_sem, e0, e2, e4, e5, e8]; rfl)), by (first | (simp -implicitDefEqProofs (disch := omega) only [go_sem, e0, e2, e4, e5, e8]; done) | (simp -implicitDefEqProofs (disch := omega) only [go_sem, e0, e2, e4, e5, e8]; rfl)), by (first | (simp -implicitDefEqProofs (disch := omega) only [go_sem, e0, e2, e4, e5, e8]; done) | (simp -implicitDefEqProofs (disch := omega) only [go_sem, e0, e2, e4, e5, e8]; rfl)), by (first | (simp -implicitDefEqProofs (disch := omega) only [go_sem, e0, e2, e4, e5, e8]; done) | (simp -implicitDefEqProofs (disch := omega) only [go_sem, e0, e2, e4, e5, e8]; rfl)), by (first | (simp -implicitDefEqProofs (disch := omega) only [go_sem, e0, e2, e4, e5, e8]; done) | (simp -implicitDefEqProofs (disch := omega) only [go_sem, e0, e2, e4, e5, e8]; rfl)), by (first | (simp -implicitDefEqProofs (disch := omega) only [go_sem, e0, e2, e4, e5, e8]; done) | (simp -implicitDefEqProofs (disch := omega) only [go_sem, e0, e2, e4, e5, e8]; rfl)), by (first | (simp -implicitDefEqProofs (disch := omega) only [go_sem, e0, e2, e4, e5, e8]; done) | (simp -implicitDefEqProofs (disch := omega) only [go_sem, e0, e2, e4, e5, e8]; rfl)), rfl⟩
            · simp -implicitDefEqProofs (disch := omega) only [go_sem, e0, e2, e4, e5, e8]
              refine RCall_eq c2 ?_
              try simp -implicitDefEqProofs (disch := omega) only [go_sem, e0, e2, e4, e5, e8]
              refine RS_first [1, 12] (by kernel_rfl) ⟨?_, ?_, trivial⟩
              · simp -implicitDefEqProofs (disch := omega) only [go_sem, e0, e2, e4, e5, e8]
                refine RS_cut [12, 13, 14] [15, 17] (by kernel_rfl) ?_
                refine RS_text (L := [12, 13, 14]) (by kernel_rfl) ?_
                simp -implicitDefEqProofs (disch := omega) only [go_sem, e0, e2, e4, e5, e8]
                refine RCall_eq c3 ?_
                try simp -implicitDefEqProofs (disch := omega) only [go_sem, e0, e2, e4, e5, e8]
                refine RRun_build1z (cs := [.int .i64 x.1, .int .i64 x.2.1, .int .i64 x.2.2]) rkids_sl rfl (by omega) fun gn hgn => ?_
                have ngn : g2 ≠ gn := by obtain ⟨_, _, h, _⟩ := hgn; exact Nat.ne_of_lt h
                try simp -implicitDefEqProofs (disch := omega) only [go_sem, e0, e2, e4, e5, e8]
                exact hI _ _ ⟨gn, ngn, by (first | (simp -implicitDefEqProofs (disch := omega) only [go_sem, e0, e2, e4, e5, e8]; done) | (simp -implicitDefEqProofs (disch := omega) only [go_sem, e0, e2, e4, e5, e8]; rfl)), by (first | (simp -implicitDefEqProofs (disch := omega) only [go_sem, e0, e2, e4, e5, e8]; done) | (simp -implicitDefEqProofs (disch := omega) only [go_sem, e0, e2, e4, e5, e8]; rfl)), by (first | (simp -implicitDefEqProofs (disch := omega) only [go_sem, e0, e2, e4, e5, e8]; done) | (simp -implicitDefEqProofs (disch := omega) only [go_sem, e0, e2, e4, e5, e8]; rfl)), by (first | (simp -implicitDefEqProofs (disch := omega) only [go_sem, e0, e2, e4, e5, e8]; done) | (simp -implicitDefEqProofs (disch := omega) only [go_sem, e0, e2, e4, e5, e8]; rfl)), by (first | (simp -implicitDefEqProofs (disch := omega) only [go_sem, e0, e2, e4, e5, e8]; done) | (simp -implicitDefEqProofs (disch := omega) only [go_sem, e0, e2, e4, e5, e8]; rfl)), by (first | (simp -implicitDefEqProofs (disch := omega) only [go_sem, e0, e2, e4, e5, e8]; done) | (simp -implicitDefEqProofs (disch := omega) only [go_sem, e0, e2, e4, e5, e8]; rfl)), by (first | (simp -implicitDefEqProofs (disch := omega) only [go_sem, e0, e2, e4, e5, e8]; done) | (simp -implicitDefEqProofs (disch := omega) only [go_sem, e0, e2, e4, e5, e8]; rfl)), by (first | (simp -implicitDefEqProofs (disch := omega) only [go_sem, e0, e2, e4, e5, e8]; done) | (simp -implicitDefEqProofs (disch := omega) only [go_sem, e0, e2, e4, e5, e8]; rfl)), rfl⟩
              · simp -implicitDefEqProofs (disch := omega) only [go_sem, e0, e2, e4, e5, e8]
                refine RCall_eq c3 ?_
                try simp -implicitDefEqProofs (disch := omega) only [go_sem, e0, e2, e4, e5, e8]
                refine RS_first [1, 13] (by kernel_rfl) ⟨?_, ?_, trivial⟩
                · simp -implicitDefEqProofs (disch := omega) only [go_sem, e0, e2, e4, e5, e8]
                  refine RS_cut [13, 14] [15, 17] (by kernel_rfl) ?_
                  refine RS_text (L := [13, 14]) (by kernel_rfl) ?_
                  simp -implicitDefEqProofs (disch := omega) only [go_sem, e0, e2, e4, e5, e8]
                  refine RRun_build1z (cs := [.int .i64 x.1, .int .i64 x.2.1, .int .i64 x.2.2]) rkids_sl rfl (by omega) fun gn hgn => ?_
                  have ngn : g2 ≠ gn := by obtain ⟨_, _, h, _⟩ := hgn; exact Nat.ne_of_lt h
                  try simp -implicitDefEqProofs (disch := omega) only [go_sem, e0, e2, e4, e5, e8]
                  exact hI _ _ ⟨gn, ngn, by (first | (simp -implicitDefEqProofs (disch := omega) only [go_sem, e0, e2, e4, e5, e8]; done) | (simp -implicitDefEqProofs (disch := omega) only [go_sem, e0, e2, e4, e5, e8]; rfl)), by (first | (simp -implicitDefEqProofs (disch := omega) only [go_sem, e0, e2, e4, e5, e8]; done) | (simp -implicitDefEqProofs (disch := omega) only [go_sem, e0, e2, e4, e5, e8]; rfl)), by (first | (simp -implicitDefEqProofs (disch := omega) only [go_sem, e0, e2, e4, e5, e8]; done) | (simp -implicitDefEqProofs (disch := omega) only [go_sem, e0, e2, e4, e5, e8]; rfl)), by (first | (simp -implicitDefEqProofs (disch := omega) only [go_sem, e0, e2, e4, e5, e8]; done) | (simp -implicitDefEqProofs (disch := omega) only [go_sem, e0, e2, e4, e5, e8]; rfl)), by (first | (simp -implicitDefEqProofs (disch := omega) only [go_sem, e0, e2, e4, e5, e8]; done) | (simp -implicitDefEqProofs (disch := omega) only [go_sem, e0, e2, e4, e5, e8]; rfl)), by (first | (simp -implicitDefEqProofs (disch := omega) only [go_sem, e0, e2, e4, e5, e8]; done) | (simp -implicitDefEqProofs (disch := omega) only [go_sem, e0, e2, e4, e5, e8]; rfl)), by (first | (simp -implicitDefEqProofs (disch := omega) only [go_sem, e0, e2, e4, e5, e8]; done) | (simp -implicitDefEqProofs (disch := omega) only [go_sem, e0, e2, e4, e5, e8]; rfl)), by (first | (simp -implicitDefEqProofs (disch := omega) only [go_sem, e0, e2, e4, e5, e8]; done) | (simp -implicitDefEqProofs (disch := omega) only [go_sem, e0, e2, e4, e5, e8]; rfl)), rfl⟩
                · simp -implicitDefEqProofs (disch := omega) only [go_sem, e0, e2, e4, e5, e8]
                  refine RS_first [1, 14] (by kernel_rfl) ⟨?_, ?_, trivial⟩
                  · simp -implicitDefEqProofs (disch := omega) only [go_sem, e0, e2, e4, e5, e8]
                    refine RS_cut [14] [15, 17] (by kernel_rfl) ?_
                    refine RS_text (L := [14]) (by kernel_rfl) ?_
                    simp -implicitDefEqProofs (disch := omega) only [go_sem, e0, e2, e4, e5, e8]
                    refine RRun_build1z (cs := [.int .i64 x.1, .int .i64 x.2.1, .int .i64 x.2.2]) rkids_sl rfl (by omega) fun gn hgn => ?_
                    have ngn : g2 ≠ gn := by obtain ⟨_, _, h, _⟩ := hgn; exact Nat.ne_of_lt h
                    try simp -implicitDefEqProofs (disch := omega) only [go_sem, e0, e2, e4, e5, e8]
                    exact hI _ _ ⟨gn, ngn, by (first | (simp -implicitDefEqProofs (disch := omega) only [go_sem, e0, e2, e4, e5, e8]; done) | (simp -implicitDefEqProofs (disch := omega) only [go_sem, e0, e2, e4, e5, e8]; rfl)), by (first | (simp -implicitDefEqProofs (disch := omega) only [go_sem, e0, e2, e4, e5, e8]; done) | (simp -implicitDefEqProofs (disch := omega) only [go_sem, e0, e2, e4, e5, e8]; rfl)), by (first | (simp -implicitDefEqProofs (disch := omega) only [go_sem, e0, e2, e4, e5, e8]; done) | (simp -implicitDefEqProofs (disch := omega) only [go_sem, e0, e2, e4, e5, e8]; rfl)), by (first | (simp -implicitDefEqProofs (disch := omega) only [go_sem, e0, e2, e4, e5, e8]; done) | (simp -implicitDefEqProofs (disch := omega) only [go_sem, e0, e2, e4, e5, e8]; rfl)), by (first | (simp -implicitDefEqProofs (disch := omega) only [go_sem, e0, e2, e4, e5, e8]; done) | (simp -implicitDefEqProofs (disch := omega) only [go_sem, e0, e2, e4, e5, e8]; rfl)), by (first | (simp -implicitDefEqProofs (disch := omega) only [go_sem, e0, e2, e4, e5, e8]; done) | (simp -implicitDefEqProofs (disch := omega) only [go_sem, e0, e2, e4, e5, e8]; rfl)), by (first | (simp -implicitDefEqProofs (disch := omega) only [go_sem, e0, e2, e4, e5, e8]; done) | (simp -implicitDefEqProofs (disch := omega) only [go_sem, e0, e2, e4, e5, e8]; rfl)), by (first | (simp -implicitDefEqProofs (disch := omega) only [go_sem, e0, e2, e4, e5, e8]; done) | (simp -implicitDefEqProofs (disch := omega) only [go_sem, e0, e2, e4, e5, e8]; rfl)), rfl⟩
                  · simp -implicitDefEqProofs (disch := omega) only [go_sem, e0, e2, e4, e5, e8]
                    refine RRun_build1z (cs := [.int .i64 x.1, .int .i64 x.2.1, .int .i64 x.2.2]) rkids_sl rfl (by omega) fun gn hgn => ?_
                    have ngn : g2 ≠ gn := by obtain ⟨_, _, h, _⟩ := hgn; exact Nat.ne_of_lt h
                    try simp -implicitDefEqProofs (disch := omega) only [go_sem, e0, e2, e4, e5, e8]
                    refine RS_cut [1] [15, 17] (by kernel_rfl) ?_
                    refine RS_text (L := [1]) (by kernel_rfl) ?_
                    simp -implicitDefEqProofs (disch := omega) only [go_sem, e0, e2, e4, e5, e8]
                    exact hI _ _ ⟨gn, ngn, by (first | (simp -implicitDefEqProofs (disch := omega) only [go_sem, e0, e2, e4, e5, e8]; done) | (simp -implicitDefEqProofs (disch := omega) only [go_sem, e0, e2, e4, e5, e8]; rfl)), by (first | (simp -implicitDefEqProofs (disch := omega) only [go_sem, e0, e2, e4, e5, e8]; done) | (simp -implicitDefEqProofs (disch := omega) only [go_sem, e0, e2, e4, e5, e8]; rfl)), by (first | (simp -implicitDefEqProofs (disch := omega) only [go_sem, e0, e2, e4, e5, e8]; done) | (simp -implicitDefEqProofs (disch := omega) only [go_sem, e0, e2, e4, e5, e8]; rfl)), by (first | (simp -implicitDefEqProofs (disch := omega) only [go_sem, e0, e2, e4, e5, e8]; done) | (simp -implicitDefEqProofs (disch := omega) only [go_sem, e0, e2, e4, e5, e8]; rfl)), by (first | (simp -implicitDefEqProofs (disch := omega) only [go_sem, e0, e2, e4, e5, e8]; done) | (simp -implicitDefEqProofs (disch := omega) only [go_sem, e0, e2, e4, e5, e8]; rfl)), by (first | (simp -implicitDefEqProofs (disch := omega) only [go_sem, e0, e2, e4, e5, e8]; done) | (simp -implicitDefEqProofs (disch := omega) only [go_sem, e0, e2, e4, e5, e8]; rfl)), by (first | (simp -implicitDefEqProofs (disch := omega) only [go_sem, e0, e2, e4, e5, e8]; done) | (simp -implicitDefEqProofs (disch := omega) only [go_sem, e0, e2, e4, e5, e8]; rfl)), by (first | (simp -implicitDefEqProofs (disch := omega) only [go_sem, e0, e2, e4, e5, e8]; done) | (simp -implicitDefEqProofs (disch := omega) only [go_sem, e0, e2, e4, e5, e8]; rfl)), rfl⟩
        · clear e0 e2 e4 e5
          rintro f' h ⟨gn, ngn, e0, e2, e4, e5, e8', e83, e96, e98, rfl⟩
          subst hH
          refine RS_text (by kernel_rfl) ?_
          simp -implicitDefEqProofs (disch := omega) only [go_sem, e0, e2, e4, e5, e8', e83, e96, e98]
          refine RRun_append_cells rkids_sl (fun _ hs => Sat.swap2 hs.2.2.2) rfl (tkC_one' x) (by omega) (by simp only [maxLen]; omega) fun a'' c'' hc'' => ?_
          simp -implicitDefEqProofs (disch := omega) only [go_sem, e0, e2, e4, e5, e8', e83, e96, e98]
          refine hQ' _ _ fun w1 hs => ⟨_, hs.swap2, ⟨i + 1, a'', c'', by omega, by omega, hc'', ?_, ?_, ?_, ?_, ?_, by rw [hrow, tkC_snoc]⟩, ?_⟩
          · (first | (simp -implicitDefEqProofs (disch := omega) only [go_sem, e0, e2, e4, e5, e8', e83, e96, e98]; done) | (simp -implicitDefEqProofs (disch := omega) only [go_sem, e0, e2, e4, e5, e8', e83, e96, e98]; rfl))
          · (first | (simp -implicitDefEqProofs (disch := omega) only [go_sem, e0, e2, e4, e5, e8', e83, e96, e98]; done) | (simp -implicitDefEqProofs (disch := omega) only [go_sem, e0, e2, e4, e5, e8', e83, e96, e98]; rfl))
          · (first | (simp -implicitDefEqProofs (disch := omega) only [go_sem, e0, e2, e4, e5, e8', e83, e96, e98]; done) | (simp -implicitDefEqProofs (disch := omega) only [go_sem, e0, e2, e4, e5, e8', e83, e96, e98]; rfl))
          · (first | (simp -implicitDefEqProofs (disch := omega) only [go_sem, e0, e2, e4, e5, e8', e83, e96, e98]; done) | (simp -implicitDefEqProofs (disch := omega) only [go_sem, e0, e2, e4, e5, e8', e83, e96, e98]; rfl))
          · (first | (simp -implicitDefEqProofs (disch := omega) only [go_sem, e0, e2, e4, e5, e8', e83, e96, e98]; done) | (simp -implicitDefEqProofs (disch := omega) only [go_sem, e0, e2, e4, e5, e8', e83, e96, e98]; rfl))
          · simp -implicitDefEqProofs (disch := omega) only [go_sem, e0, e2, e4, e5, e8', e83, e96, e98, e8]; omega
      have g1' : ¬ (i : Int) < (Nd.cnt s : Int) := by omega
      obtain rfl : i = Nd.cnt s := by omega
      have hl2 := Nd.kidsTo_len s (Nd.cnt s)
      rw [hun] at hbe
      rw [hun] at hpv
      generalize Nd.kidsTo s (Nd.cnt s) = r at *
      simp -implicitDefEqProofs (disch := omega) only [go_sem, e0, e2, e4, e5, e8, g1', decide_false]
      rw [← hl2] at hc' hcl ⊢
      refine RCall_eqS (u := .tuple #[str bb, .int .i64 be]) (fun w1 hs => ?_) ?_
      · have := rnode_build ⟨false, [], r⟩ none a' 0 c' (by simp) (show r.length ≤ 2147483648 by omega) w1 ⟨Rd.nil _ _ _ _, own_rd hs (List.mem_cons_of_mem _ List.mem_cons_self)⟩
        rw [hbe] at this
        exact this
      by_cases k1 : be = 0
      · by_cases k2 : bb = s
        · rw [if_pos ⟨k1, k2⟩] at hpv
          rw [hpv] at hQ
          simp -implicitDefEqProofs (disch := omega) only [go_sem, e0, e2, e4, e5, e8, k1, k2, decide_true]
          exact hQ _ _ fun w' hs => ⟨_, Sat.drop34 hs, _, rfl, none, 0, a', c', rfl, Nat.le_refl _, hc', rfl⟩
        · rw [if_neg (fun h => k2 h.2)] at hpv
          rw [hpv] at hQ
          simp -implicitDefEqProofs (disch := omega) only [go_sem, e0, e2, e4, e5, e8, k1, k2, decide_true, decide_false]
          exact hQ _ _ fun w' hs => hfail 4 w' _ hs (by simp)
      · rw [if_neg (fun h => k1 h.1)] at hpv
        rw [hpv] at hQ
        simp -implicitDefEqProofs (disch := omega) only [go_sem, e0, e2, e4, e5, e8, k1, decide_false]
        exact hQ _ _ fun w' hs => hfail 4 w' _ hs (by simp)
end Go.Proofs.Ytlmbebnpnnkhmaa
