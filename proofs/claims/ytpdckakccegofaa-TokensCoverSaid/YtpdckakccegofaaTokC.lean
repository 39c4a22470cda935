/- tokens and its reference: the walks, third part: lists of tokens. -/
import Derived.Test.YtpdckakccegofaaTokB
namespace Go.Proofs.Ytpdckakccegofaa
set_option linter.unusedSimpArgs false
set_option linter.unusedVariables false
open H

/-- A new row of tokens. -/
def NewToks (v : Value) (rs : List Res) (r : List Tok.Tk) : Prop := ∃ a c, v = .slice a r.length c ∧ r.length ≤ c ∧ rs = [Own 33 3 (.slice a r.length c) r.length (r.flatMap Tok.tkC)]
theorem tkC_one (r : List Tok.Tk) (t : Tok.Tk) : (r ++ [t]).flatMap Tok.tkC = r.flatMap Tok.tkC ++ [.int .i64 t.1, .int .i64 t.2.1, .int .i64 t.2.2] := by simp [Tok.tkC]
theorem tkC_cells (t : Tok.Tk) : ∀ u ∈ [Value.int .i64 t.1, .int .i64 t.2.1, .int .i64 t.2.2], u.oneCell' = true := by
  intro u hu
  simp only [List.mem_cons, List.not_mem_nil, or_false] at hu
  rcases hu with rfl | rfl | rfl <;> rfl
/-- A row of tokens of one's own reads so. -/
theorem toks_rd {w : World} {a : Option Addr} {c : Nat} {r : List Tok.Tk} (h : w.ownsRow 0 33 3 (.slice a r.length c) r.length (r.flatMap Tok.tkC)) : Rd w a r.length 3 (ofL Tok.tkC Tok.tk0 r) := by
  rw [← flat_ofL Tok.tkC Tok.tk0 r] at h
  exact rd_own h fun i hi => rfl

set_option maxHeartbeats 1000000 in
theorem rtok_between (l : List Tok.Tk) (a : Option Addr) (c : Nat) (lo hi : Int) (hl : l.length ≤ 2147483648) (w : World) (hr : Rd w a l.length 3 (ofL Tok.tkC Tok.tk0 l)) :
    Does Try.prog 22 #[.slice a l.length c, .int .i64 lo, .int .i64 hi] w fun v w' => ∃ rs, Sat w' (rs ++ [.anchor w []]) ∧ NewToks v rs (Tok.betw l lo hi) := by
  refine does (args := [.slice a l.length c, .int .i64 lo, .int .i64 hi]) Try.func22 rfl (by kernel_rfl) (by kernel_rfl) rfl ent_22 (Sat.start w []) ?_; intro QV hQ
  simp -implicitDefEqProofs (disch := omega) only [go_sem]
  refine RLoop_from (fun f h => ∃ (i : Nat) (a' : Option Addr) (c' : Nat), i ≤ l.length ∧ (Tok.betw (l.take i) lo hi).length ≤ c' ∧ f 0 = .slice a l.length c ∧ f 1 = .int .i64 lo ∧ f 2 = .int .i64 hi ∧ f 8 = .int .i64 (i : Int) ∧ f 7 = .slice a' (Tok.betw (l.take i) lo hi).length c' ∧ h = [Own 33 3 (.slice a' (Tok.betw (l.take i) lo hi).length c') (Tok.betw (l.take i) lo hi).length ((Tok.betw (l.take i) lo hi).flatMap Tok.tkC), .anchor w []]) (fun f _ => (l.length - ival (f 8)).toNat) ?_ ?_
  · exact fun w1 hs => ⟨_, hs.own_nil 33 3, 0, none, 0, by omega, by simp [Tok.betw], by simp -implicitDefEqProofs (disch := omega) only [go_sem], by simp -implicitDefEqProofs (disch := omega) only [go_sem], by simp -implicitDefEqProofs (disch := omega) only [go_sem], by simp -implicitDefEqProofs (disch := omega) only [go_sem]; rfl, by simp -implicitDefEqProofs (disch := omega) only [go_sem]; rfl, rfl⟩
  rintro f h ⟨i, a', c', hi', hc', e0, e1, e2, e8, e7, rfl⟩ Q' hQ'
  by_cases hil : i < l.length
  · have g1 : (i : Int) < (l.length : Int) := by omega
    obtain ⟨b, o, rfl, hb, hc, hc0, _, _⟩ := tk_at hr i hil
    have ht := Tok.betw_take hil lo hi
    have hlen := Tok.filter_len_le (fun t => decide (lo ≤ t.1) && decide (t.1 < hi)) l i hi'
    have hlen : (Tok.betw (l.take i) lo hi).length ≤ i := hlen
    generalize Tok.betw (l.take i) lo hi = r at *
    generalize l.getD i Tok.tk0 = t at *
    by_cases h1 : lo ≤ t.1
    · by_cases h2 : t.1 < hi
      · rw [if_pos ⟨decide_eq_true h1, decide_eq_true h2⟩] at ht
        simp -implicitDefEqProofs (disch := omega) only [go_sem, e0, e1, e2, e8, g1, hc0, h1, h2, decide_true, hc, e7]
        refine RRun_build1z (cs := [.int .i64 t.1, .int .i64 t.2.1, .int .i64 t.2.2]) tok_sl rfl (by omega) fun g hg => ?_
        simp -implicitDefEqProofs (disch := omega) only [go_sem, e7]
        refine RRun_append_cells tok_sl (fun _ hs => hs.2.2.2) rfl (tkC_cells t) (by omega) (by simp only [maxLen]; omega) fun a'' c'' hc'' => ?_
        simp -implicitDefEqProofs (disch := omega) only [go_sem, e8]
        refine hQ' _ _ fun w1 hs => ⟨_, hs, ⟨i + 1, a'', c'', by omega, ?_, ?_, ?_, ?_, ?_, ?_, ?_⟩, ?_⟩
        · rw [ht, List.length_append]; exact hc''
        · simp -implicitDefEqProofs (disch := omega) only [go_sem, e0]
        · simp -implicitDefEqProofs (disch := omega) only [go_sem, e1]
        · simp -implicitDefEqProofs (disch := omega) only [go_sem, e2]
        · simp -implicitDefEqProofs (disch := omega) only [go_sem]; rfl
        · simp -implicitDefEqProofs (disch := omega) only [go_sem]; rw [ht, List.length_append]; rfl
        · rw [ht, tkC_one, List.length_append]; rfl
        · simp -implicitDefEqProofs (disch := omega) only [go_sem, e8]; omega
      · rw [if_neg fun h => h2 (of_decide_eq_true h.2)] at ht
        simp -implicitDefEqProofs (disch := omega) only [go_sem, e0, e1, e2, e8, g1, hc0, h1, h2, decide_true, decide_false]
        refine hQ' _ _ fun w1 hs => ⟨_, hs, ⟨i + 1, a', c', by omega, by rw [ht]; exact hc', ?_, ?_, ?_, ?_, ?_, by rw [ht]⟩, ?_⟩
        · simp -implicitDefEqProofs (disch := omega) only [go_sem, e0]
        · simp -implicitDefEqProofs (disch := omega) only [go_sem, e1]
        · simp -implicitDefEqProofs (disch := omega) only [go_sem, e2]
        · simp -implicitDefEqProofs (disch := omega) only [go_sem]; rfl
        · simp -implicitDefEqProofs (disch := omega) only [go_sem, e7]; rw [ht]
        · simp -implicitDefEqProofs (disch := omega) only [go_sem, e8]; omega
    · rw [if_neg fun h => h1 (of_decide_eq_true h.1)] at ht
      simp -implicitDefEqProofs (disch := omega) only [go_sem, e0, e1, e2, e8, g1, hc0, h1, decide_true, decide_false]
      refine hQ' _ _ fun w1 hs => ⟨_, hs, ⟨i + 1, a', c', by omega, by rw [ht]; exact hc', ?_, ?_, ?_, ?_, ?_, by rw [ht]⟩, ?_⟩
      · simp -implicitDefEqProofs (disch := omega) only [go_sem, e0]
      · simp -implicitDefEqProofs (disch := omega) only [go_sem, e1]
      · simp -implicitDefEqProofs (disch := omega) only [go_sem, e2]
      · simp -implicitDefEqProofs (disch := omega) only [go_sem]; rfl
      · simp -implicitDefEqProofs (disch := omega) only [go_sem, e7]; rw [ht]
      · simp -implicitDefEqProofs (disch := omega) only [go_sem, e8]; omega
  · obtain rfl : i = l.length := by omega
    rw [List.take_length] at *
    simp -implicitDefEqProofs (disch := omega) only [go_sem, e0, e8, e7, Int.lt_irrefl, decide_false]
    exact hQ _ _ fun w' hs => ⟨_, hs, a', c', rfl, hc', rfl⟩

set_option maxHeartbeats 1000000 in
theorem rtok_of (l : List Tok.Tk) (a : Option Addr) (c : Nat) (k : Int) (hl : l.length ≤ 2147483648) (w : World) (hr : Rd w a l.length 3 (ofL Tok.tkC Tok.tk0 l)) :
    Does Try.prog 23 #[.slice a l.length c, .int .i64 k] w fun v w' => ∃ rs, Sat w' (rs ++ [.anchor w []]) ∧ NewToks v rs (Tok.ofk l k) := by
  refine does (args := [.slice a l.length c, .int .i64 k]) Try.func23 rfl (by kernel_rfl) (by kernel_rfl) rfl ent_23 (Sat.start w []) ?_; intro QV hQ
  simp -implicitDefEqProofs (disch := omega) only [go_sem]
  refine RLoop_from (fun f h => ∃ (i : Nat) (a' : Option Addr) (c' : Nat), i ≤ l.length ∧ (Tok.ofk (l.take i) k).length ≤ c' ∧ f 0 = .slice a l.length c ∧ f 1 = .int .i64 k ∧ f 6 = .int .i64 (i : Int) ∧ f 5 = .slice a' (Tok.ofk (l.take i) k).length c' ∧ h = [Own 33 3 (.slice a' (Tok.ofk (l.take i) k).length c') (Tok.ofk (l.take i) k).length ((Tok.ofk (l.take i) k).flatMap Tok.tkC), .anchor w []]) (fun f _ => (l.length - ival (f 6)).toNat) ?_ ?_
  · exact fun w1 hs => ⟨_, hs.own_nil 33 3, 0, none, 0, by omega, by simp [Tok.ofk], by simp -implicitDefEqProofs (disch := omega) only [go_sem], by simp -implicitDefEqProofs (disch := omega) only [go_sem], by simp -implicitDefEqProofs (disch := omega) only [go_sem]; rfl, by simp -implicitDefEqProofs (disch := omega) only [go_sem]; rfl, rfl⟩
  rintro f h ⟨i, a', c', hi', hc', e0, e1, e6, e5, rfl⟩ Q' hQ'
  by_cases hil : i < l.length
  · have g1 : (i : Int) < (l.length : Int) := by omega
    obtain ⟨b, o, rfl, hb, hc, _, _, hc2⟩ := tk_at hr i hil
    have ht := Tok.ofk_take hil k
    have hlen := Tok.filter_len_le (fun t => decide (t.2.2 = k)) l i hi'
    have hlen : (Tok.ofk (l.take i) k).length ≤ i := hlen
    generalize Tok.ofk (l.take i) k = r at *
    generalize l.getD i Tok.tk0 = t at *
    by_cases h1 : t.2.2 = k
    · rw [if_pos h1] at ht
      simp -implicitDefEqProofs (disch := omega) only [go_sem, e0, e1, e6, g1, hc2, h1, decide_true, hc, e5]
      refine RRun_build1z (cs := [.int .i64 t.1, .int .i64 t.2.1, .int .i64 k]) tok_sl rfl (by omega) fun g hg => ?_
      simp -implicitDefEqProofs (disch := omega) only [go_sem, e5]
      rw [← h1]
      refine RRun_append_cells tok_sl (fun _ hs => hs.2.2.2) rfl (tkC_cells t) (by omega) (by simp only [maxLen]; omega) fun a'' c'' hc'' => ?_
      rw [h1]
      simp -implicitDefEqProofs (disch := omega) only [go_sem, e6]
      refine hQ' _ _ fun w1 hs => ⟨_, hs, ⟨i + 1, a'', c'', by omega, ?_, ?_, ?_, ?_, ?_, ?_⟩, ?_⟩
      · rw [ht, List.length_append]; exact hc''
      · simp -implicitDefEqProofs (disch := omega) only [go_sem, e0]
      · simp -implicitDefEqProofs (disch := omega) only [go_sem, e1]
      · simp -implicitDefEqProofs (disch := omega) only [go_sem]; rfl
      · simp -implicitDefEqProofs (disch := omega) only [go_sem]; rw [ht, List.length_append]; rfl
      · rw [ht, tkC_one, List.length_append, ← h1]; rfl
      · simp -implicitDefEqProofs (disch := omega) only [go_sem, e6]; omega
    · rw [if_neg h1] at ht
      simp -implicitDefEqProofs (disch := omega) only [go_sem, e0, e1, e6, g1, hc2, h1, decide_true, decide_false]
      refine hQ' _ _ fun w1 hs => ⟨_, hs, ⟨i + 1, a', c', by omega, by rw [ht]; exact hc', ?_, ?_, ?_, ?_, by rw [ht]⟩, ?_⟩
      · simp -implicitDefEqProofs (disch := omega) only [go_sem, e0]
      · simp -implicitDefEqProofs (disch := omega) only [go_sem, e1]
      · simp -implicitDefEqProofs (disch := omega) only [go_sem]; rfl
      · simp -implicitDefEqProofs (disch := omega) only [go_sem, e5]; rw [ht]
      · simp -implicitDefEqProofs (disch := omega) only [go_sem, e6]; omega
  · obtain rfl : i = l.length := by omega
    rw [List.take_length] at *
    simp -implicitDefEqProofs (disch := omega) only [go_sem, e0, e6, e5, Int.lt_irrefl, decide_false]
    exact hQ _ _ fun w' hs => ⟨_, hs, a', c', rfl, hc', rfl⟩

set_option maxHeartbeats 1000000 in
theorem tok_of (l : List Tok.Tk) (a : Option Addr) (c : Nat) (k : Int) (hl : l.length ≤ 2147483648) (w : World) (hr : Rd w a l.length 3 (ofL Tok.tkC Tok.tk0 l)) :
    Does Try.prog 20 #[.slice a l.length c, .int .i64 k] w fun v w' => ∃ rs, Sat w' (rs ++ [.anchor w []]) ∧ NewToks v rs (Tok.ofk l k) := by
  refine does (args := [.slice a l.length c, .int .i64 k]) Try.func20 rfl (by kernel_rfl) (by kernel_rfl) rfl ent_20 (Sat.start w []) ?_; intro QV hQ
  simp -implicitDefEqProofs (disch := omega) only [go_sem]
  refine RLoop_from (fun f h => ∃ (i : Nat) (a' : Option Addr) (c' : Nat), i ≤ l.length ∧ (Tok.ofk (l.take i) k).length ≤ c' ∧ f 8 = .slice a l.length c ∧ f 9 = .int .i64 (l.length : Int) ∧ f 1 = .int .i64 k ∧ f 10 = .int .i64 (i : Int) ∧ f 5 = .slice a' (Tok.ofk (l.take i) k).length c' ∧ h = [Own 33 3 (.slice a' (Tok.ofk (l.take i) k).length c') (Tok.ofk (l.take i) k).length ((Tok.ofk (l.take i) k).flatMap Tok.tkC), .anchor w []]) (fun f _ => (l.length - ival (f 10)).toNat) ?_ ?_
  · exact fun w1 hs => ⟨_, hs.own_nil 33 3, 0, none, 0, by omega, by simp [Tok.ofk], by simp -implicitDefEqProofs (disch := omega) only [go_sem], by simp -implicitDefEqProofs (disch := omega) only [go_sem], by simp -implicitDefEqProofs (disch := omega) only [go_sem], by simp -implicitDefEqProofs (disch := omega) only [go_sem]; rfl, by simp -implicitDefEqProofs (disch := omega) only [go_sem]; rfl, rfl⟩
  rintro f h ⟨i, a', c', hi', hc', e8, e9, e1, e10, e5, rfl⟩ Q' hQ'
  by_cases hil : i < l.length
  · have g1 : (i : Int) < (l.length : Int) := by omega
    obtain ⟨b, o, rfl, hb, hc, _, _, hc2⟩ := tk_at hr i hil
    have ht := Tok.ofk_take hil k
    have hlen := Tok.filter_len_le (fun t => decide (t.2.2 = k)) l i hi'
    have hlen : (Tok.ofk (l.take i) k).length ≤ i := hlen
    generalize Tok.ofk (l.take i) k = r at *
    generalize l.getD i Tok.tk0 = t at *
    simp -implicitDefEqProofs (disch := omega) only [go_sem, e8, e9, e10, g1, hc]
    refine RNew_intro fun g hg => ?_
    simp only [below_cons, below_nil, under_anchor, and_true] at hg
    simp -implicitDefEqProofs (disch := omega) only [go_sem]
    by_cases h1 : t.2.2 = k
    · rw [if_pos h1] at ht
      simp -implicitDefEqProofs (disch := omega) only [go_sem, e1, h1, decide_true, e5]
      refine RRun_build1z (cs := [.int .i64 t.1, .int .i64 t.2.1, .int .i64 k]) tok_sl rfl (by omega) fun g hg => ?_
      simp -implicitDefEqProofs (disch := omega) only [go_sem, e5]
      rw [← h1]
      refine RRun_append_cells tok_sl (fun _ hs => hs.2.2.2.2.2.2) rfl (tkC_cells t) (by omega) (by simp only [maxLen]; omega) fun a'' c'' hc'' => ?_
      rw [h1]
      simp -implicitDefEqProofs (disch := omega) only [go_sem, e10]
      refine hQ' _ _ fun w1 hs => ⟨_, hs, ⟨i + 1, a'', c'', by omega, ?_, ?_, ?_, ?_, ?_, ?_, ?_⟩, ?_⟩
      · rw [ht, List.length_append]; exact hc''
      · simp -implicitDefEqProofs (disch := omega) only [go_sem, e8]
      · simp -implicitDefEqProofs (disch := omega) only [go_sem, e9]
      · simp -implicitDefEqProofs (disch := omega) only [go_sem, e1]
      · simp -implicitDefEqProofs (disch := omega) only [go_sem]; rfl
      · simp -implicitDefEqProofs (disch := omega) only [go_sem]; rw [ht, List.length_append]; rfl
      · rw [ht, tkC_one, List.length_append, ← h1]; rfl
      · simp -implicitDefEqProofs (disch := omega) only [go_sem, e10]; omega
    · rw [if_neg h1] at ht
      simp -implicitDefEqProofs (disch := omega) only [go_sem, e1, h1, decide_true, decide_false, e10]
      refine hQ' _ _ fun w1 hs => ⟨_, hs.2.2.2, ⟨i + 1, a', c', by omega, by rw [ht]; exact hc', ?_, ?_, ?_, ?_, ?_, by rw [ht]⟩, ?_⟩
      · simp -implicitDefEqProofs (disch := omega) only [go_sem, e8]
      · simp -implicitDefEqProofs (disch := omega) only [go_sem, e9]
      · simp -implicitDefEqProofs (disch := omega) only [go_sem, e1]
      · simp -implicitDefEqProofs (disch := omega) only [go_sem]; rfl
      · simp -implicitDefEqProofs (disch := omega) only [go_sem, e5]; rw [ht]
      · simp -implicitDefEqProofs (disch := omega) only [go_sem, e10]; omega
  · obtain rfl : i = l.length := by omega
    rw [List.take_length] at *
    simp -implicitDefEqProofs (disch := omega) only [go_sem, e9, e10, e5, Int.lt_irrefl, decide_false]
    exact hQ _ _ fun w' hs => ⟨_, hs, a', c', rfl, hc', rfl⟩

set_option maxHeartbeats 1000000 in
theorem tok_count (l : List Tok.Tk) (a : Option Addr) (c : Nat) (k : Int) (hl : l.length ≤ 2147483648) (w : World) (hr : Rd w a l.length 3 (ofL Tok.tkC Tok.tk0 l)) :
    Does Try.prog 24 #[.slice a l.length c, .int .i64 k] w fun v w' => v = .int .i64 ((Tok.ofk l k).length : Int) ∧ Ext [] w w' := by
  refine does (args := [.slice a l.length c, .int .i64 k]) Try.func24 rfl (by kernel_rfl) (by kernel_rfl) rfl ent_24 (Sat.start w []) ?_; intro QV hQ
  simp -implicitDefEqProofs (disch := omega) only [go_sem]
  refine RCall_new (fun w1 hs => tok_of l a c k hl w1 (hr.keep (hs.mem (.anchor w []) (by simp)))) ?_
  rintro _ rs ⟨a', c', rfl, _, rfl⟩
  simp -implicitDefEqProofs (disch := omega) only [go_sem]
  exact hQ _ _ fun w' hs => ⟨rfl, hs.anchor (by simp)⟩

set_option maxHeartbeats 1000000 in
theorem tok_between (l : List Tok.Tk) (a : Option Addr) (c : Nat) (lo hi a0 : Int) (hch : Tok.Chain a0 l) (hl : l.length ≤ 2147483648) (hlc : l.length ≤ c) (w : World) (hr : Rd w a l.length 3 (ofL Tok.tkC Tok.tk0 l)) :
    Does Try.prog 19 #[.slice a l.length c, .int .i64 lo, .int .i64 hi] w fun v w' => ∃ rs, Sat w' (rs ++ [.anchor w []]) ∧ NewToks v rs (Tok.betw l lo hi) := by
  refine does (args := [.slice a l.length c, .int .i64 lo, .int .i64 hi]) Try.func19 rfl (by kernel_rfl) (by kernel_rfl) rfl ent_19 (Sat.start w []) ?_; intro QV hQ
  have hmid := Tok.betw_mid hch lo hi
  have c1 : (l.countP fun t => !decide (lo ≤ t.1)) ≤ l.length := List.countP_le_length
  have c2 : (l.countP fun t => !decide (hi ≤ t.1)) ≤ l.length := List.countP_le_length
  simp -implicitDefEqProofs (disch := omega) only [go_sem]
  refine RNew_intro fun g hg => ?_
  simp only [below_cons, below_nil, under_anchor, and_true] at hg
  simp -implicitDefEqProofs (disch := omega) only [go_sem]
  refine RCall_of (φ := fun v => v = .int .i64 ((l.countP fun t => !decide (lo ≤ t.1) : Nat) : Int)) (fun w1 hs => tok_begin l a c lo g (Tok.chain_mono_at hch lo) hl w1 (hr.keep (hs.mem (.anchor w []) (by simp))) (look_sound hs (by simp -implicitDefEqProofs (disch := omega) only [go_sem]))) ?_
  rintro _ rfl
  simp -implicitDefEqProofs (disch := omega) only [go_sem]
  refine RCall_of (φ := fun v => v = .int .i64 ((l.countP fun t => !decide (hi ≤ t.1) : Nat) : Int)) (fun w1 hs => tok_begin l a c hi g (Tok.chain_mono_at hch hi) hl w1 (hr.keep (hs.mem (.anchor w []) (by simp))) (look_sound hs (by simp -implicitDefEqProofs (disch := omega) only [go_sem]))) ?_
  rintro _ rfl
  generalize (l.countP fun t => !decide (lo ≤ t.1)) = i at *
  generalize (l.countP fun t => !decide (hi ≤ t.1)) = j at *
  by_cases h1 : j ≤ i
  · have g1 : (j : Int) ≤ (i : Int) := by omega
    simp -implicitDefEqProofs (disch := omega) only [go_sem, g1, decide_true]
    have hnil : Tok.betw l lo hi = [] := by rw [hmid, show j - i = 0 by omega]; rfl
    rw [hnil] at hQ
    exact hQ _ _ fun w' hs => ⟨[Own 33 3 (.slice none 0 0) 0 []], hs.2.2.2.own_nil 33 3, none, 0, rfl, Nat.le_refl _, rfl⟩
  · have g1 : ¬ (j : Int) ≤ (i : Int) := by omega
    obtain ⟨b, o, rfl, hb, _⟩ := hr (by omega)
    have hlen : (Tok.betw l lo hi).length = j - i := by rw [hmid, List.length_take, List.length_drop]; omega
    have hpart : Rd w (some ⟨b, o + i * 3, none⟩) (j - i) 3 (ofL Tok.tkC Tok.tk0 (Tok.betw l lo hi)) := by
      refine (hr.part i (j - i) (by omega)).congr fun k hk => ?_
      rw [hmid, ofL_drop, ofL_take _ _ _ _ _ hk]
    have hflat : flat (j - i) (ofL Tok.tkC Tok.tk0 (Tok.betw l lo hi)) = (Tok.betw l lo hi).flatMap Tok.tkC := by rw [← hlen]; exact flat_ofL _ _ _
    simp -implicitDefEqProofs (disch := omega) only [go_sem, g1, decide_false]
    refine RRun_append (v := .slice none 0 0) (xs := []) (n := 0) (h' := [.cells g 22 #[.slice (some ⟨b, o, none⟩) l.length c], .anchor w []]) ((Tok.betw l lo hi).flatMap Tok.tkC) tok_sl (fun _ hs => hs.own_nil 33 3) ?_ ?_ ?_ (by omega) (by simp only [maxLen]; omega) fun a'' c'' hc'' => ?_
    · rw [← hflat]; exact flat_len fun k _ => rfl
    · intro w1 hs k u hu
      rw [← hflat] at hu
      exact (hpart.keep (hs.mem (.anchor w []) (by simp))).cells (by omega) k u hu
    · intro u hu
      obtain ⟨t, _, hu⟩ := List.mem_flatMap.1 hu
      exact tkC_cells t u hu
    simp -implicitDefEqProofs (disch := omega) only [go_sem]
    refine hQ _ _ fun w' hs => ⟨[_], hs.drop2, a'', c'', by rw [hlen], by rw [hlen]; omega, by rw [hlen]⟩

set_option maxHeartbeats 1000000 in
theorem rtok_ended (l : List Tok.Tk) (a : Option Addr) (c : Nat) (at_ : Int) (hsm : Small l) (hl : l.length ≤ 2147483648) (w : World) (hr : Rd w a l.length 3 (ofL Tok.tkC Tok.tk0 l)) :
    Does Try.prog 26 #[.slice a l.length c, .int .i64 at_] w fun v w' => v = .int .i64 (Tok.ended l at_ : Int) ∧ Ext [] w w' := by
  refine does (args := [.slice a l.length c, .int .i64 at_]) Try.func26 rfl (by kernel_rfl) (by kernel_rfl) rfl ent_26 (Sat.start w []) ?_; intro QV hQ
  simp -implicitDefEqProofs (disch := omega) only [go_sem]
  refine RLoop_intro (fun f h => ∃ (i : Nat), i ≤ l.length ∧ f 0 = .slice a l.length c ∧ f 1 = .int .i64 at_ ∧ f 5 = .int .i64 (Tok.ended (l.take i) at_ : Int) ∧ f 6 = .int .i64 (i : Int) ∧ h = [.anchor w []]) (fun f _ => (l.length - ival (f 6)).toNat) ?_ ?_
  · exact ⟨0, by omega, by simp -implicitDefEqProofs (disch := omega) only [go_sem], by simp -implicitDefEqProofs (disch := omega) only [go_sem], by simp -implicitDefEqProofs (disch := omega) only [go_sem]; rfl, by simp -implicitDefEqProofs (disch := omega) only [go_sem]; rfl, rfl⟩
  rintro f h ⟨i, hi, e0, e1, e5, e6, rfl⟩ Q' hQ'
  by_cases hil : i < l.length
  · have g1 : (i : Int) < (l.length : Int) := by omega
    obtain ⟨b, o, rfl, hb, _, hc0, hc1, _⟩ := tk_at hr i hil
    have hst := hsm (l.getD i Tok.tk0) (by
      rw [List.getD_eq_getElem?_getD, List.getElem?_eq_getElem hil]; exact List.getElem_mem _)
    have ht := Tok.ended_take hil at_
    have hle : Tok.ended (l.take i) at_ ≤ i := by
      have : Tok.ended (l.take i) at_ ≤ (l.take i).length := List.countP_le_length
      rw [List.length_take] at this; omega
    generalize Tok.ended (l.take i) at_ = n at *
    generalize l.getD i Tok.tk0 = t at *
    simp -implicitDefEqProofs (disch := omega) only [go_sem, e0, e6, g1]
    refine RDraw_to 13 (by kernel_rfl) (by kernel_rfl) (by kernel_rfl) ?_
    repeat (first | refine Tr_step (fun Q hq => by (simp -implicitDefEqProofs (disch := omega) only [go_sem, e0, e1, e6, hc0, hc1]; exact hq)) ?_ | refine Tr_guard (by (simp -implicitDefEqProofs only [go_sem, e0, e1, e6, hc0, hc1]; first | done | fail)) (fun Q hq => by (simp -implicitDefEqProofs (disch := omega) only [go_sem, e0, e1, e6, hc0, hc1]; exact hq)) ?_ | refine Tr_skip (.inl (by (simp -implicitDefEqProofs only [go_sem, e0, e1, e6, hc0, hc1]; first | done | fail))) ?_ | refine Tr_skip (.inr (by (simp -implicitDefEqProofs only [go_sem, e0, e1, e6, hc0, hc1]; first | done | fail))) ?_)
    refine To_nil ?_
    by_cases h1 : t.1 + t.2.1 ≤ at_
    · rw [if_pos h1] at ht
      simp -implicitDefEqProofs (disch := omega) only [go_sem, h1, decide_true, e5, e6]
      refine hQ' _ _ _ (fun _ hs => hs) ⟨i + 1, by omega, ?_, ?_, ?_, ?_, rfl⟩ ?_
      · simp -implicitDefEqProofs (disch := omega) only [go_sem, e0]
      · simp -implicitDefEqProofs (disch := omega) only [go_sem, e1]
      · simp -implicitDefEqProofs (disch := omega) only [go_sem]; rw [ht]; rfl
      · simp -implicitDefEqProofs (disch := omega) only [go_sem]; rfl
      · simp -implicitDefEqProofs (disch := omega) only [go_sem, e6]; omega
    · rw [if_neg h1] at ht
      simp -implicitDefEqProofs (disch := omega) only [go_sem, h1, decide_false, e5, e6]
      refine hQ' _ _ _ (fun _ hs => hs) ⟨i + 1, by omega, ?_, ?_, ?_, ?_, rfl⟩ ?_
      · simp -implicitDefEqProofs (disch := omega) only [go_sem, e0]
      · simp -implicitDefEqProofs (disch := omega) only [go_sem, e1]
      · simp -implicitDefEqProofs (disch := omega) only [go_sem, e5]; rw [ht]
      · simp -implicitDefEqProofs (disch := omega) only [go_sem]; rfl
      · simp -implicitDefEqProofs (disch := omega) only [go_sem, e6]; omega
  · obtain rfl : i = l.length := by omega
    rw [List.take_length] at *
    simp -implicitDefEqProofs (disch := omega) only [go_sem, e0, e6, e5, Int.lt_irrefl, decide_false]
    exact hQ _ _ fun w' hs => ⟨rfl, hs.anchor (by simp)⟩

set_option maxHeartbeats 1000000 in
theorem rtok_covering (l : List Tok.Tk) (a : Option Addr) (c : Nat) (at_ : Int) (hsm : Small l) (hl : l.length ≤ 2147483648) (w : World) (hr : Rd w a l.length 3 (ofL Tok.tkC Tok.tk0 l)) :
    Does Try.prog 18 #[.slice a l.length c, .int .i64 at_] w fun v w' => v = .tuple #[.int .i64 (Tok.covering l at_).1, .int .i64 (Tok.covering l at_).2] ∧ Ext [] w w' := by
  refine does (args := [.slice a l.length c, .int .i64 at_]) Try.func18 rfl (by kernel_rfl) (by kernel_rfl) rfl ent_18 (Sat.start w []) ?_; intro QV hQ
  by_cases h0 : at_ < 0
  · have hv : Tok.covering l at_ = (0, 1) := by unfold Tok.covering; rw [if_pos h0]
    rw [hv] at hQ
    simp -implicitDefEqProofs (disch := omega) only [go_sem, h0, decide_true]
    exact hQ _ _ fun w' hs => ⟨rfl, hs.anchor (by simp)⟩
  have hv : Tok.covering l at_ = Tok.covF (Tok.find at_ l 0) := by unfold Tok.covering; rw [if_neg h0]
  rw [hv] at hQ
  simp -implicitDefEqProofs (disch := omega) only [go_sem, h0, decide_false]
  refine RLoop_intro (fun f h => ∃ (i : Nat), i ≤ l.length ∧ Tok.find at_ (l.drop i) i = Tok.find at_ l 0 ∧ f 0 = .slice a l.length c ∧ f 1 = .int .i64 at_ ∧ f 6 = .int .i64 (i : Int) ∧ h = [.anchor w []]) (fun f _ => (l.length - ival (f 6)).toNat) ?_ ?_
  · exact ⟨0, by omega, rfl, by simp -implicitDefEqProofs (disch := omega) only [go_sem], by simp -implicitDefEqProofs (disch := omega) only [go_sem], by simp -implicitDefEqProofs (disch := omega) only [go_sem]; rfl, rfl⟩
  rintro f h ⟨i, hi, hf, e0, e1, e6, rfl⟩ Q' hQ'
  by_cases hil : i < l.length
  · have g1 : (i : Int) < (l.length : Int) := by omega
    obtain ⟨b, o, rfl, hb, _, hc0, hc1, _⟩ := tk_at hr i hil
    have hst := hsm (l.getD i Tok.tk0) (by
      rw [List.getD_eq_getElem?_getD, List.getElem?_eq_getElem hil]; exact List.getElem_mem _)
    rw [Tok.drop_cons hil, Tok.find] at hf
    generalize l.getD i Tok.tk0 = t at *
    simp -implicitDefEqProofs (disch := omega) only [go_sem, e0, e6, g1]
    refine RDraw_to 22 (by kernel_rfl) (by kernel_rfl) (by kernel_rfl) ?_
    by_cases h1 : t.1 ≤ at_
    · repeat (first | refine Tr_step (fun Q hq => by (simp -implicitDefEqProofs (disch := omega) only [go_sem, e0, e1, e6, hc0, hc1, h1, decide_true]; exact hq)) ?_ | refine Tr_guard (by (simp -implicitDefEqProofs only [go_sem, e0, e1, e6, hc0, hc1, h1, decide_true]; first | done | fail)) (fun Q hq => by (simp -implicitDefEqProofs (disch := omega) only [go_sem, e0, e1, e6, hc0, hc1, h1, decide_true]; exact hq)) ?_ | refine Tr_skip (.inl (by (simp -implicitDefEqProofs only [go_sem, e0, e1, e6, hc0, hc1, h1, decide_true]; first | done | fail))) ?_ | refine Tr_skip (.inr (by (simp -implicitDefEqProofs only [go_sem, e0, e1, e6, hc0, hc1, h1, decide_true]; first | done | fail))) ?_)
      refine To_nil ?_
      by_cases h2 : at_ < t.1 + t.2.1
      · rw [if_pos ⟨h1, h2⟩] at hf
        rw [← hf] at hQ
        simp -implicitDefEqProofs (disch := omega) only [go_sem, h1, h2, decide_true, e6]
        exact hQ _ _ fun w' hs => ⟨rfl, hs.anchor (by simp)⟩
      · rw [if_neg fun h => h2 h.2] at hf
        simp -implicitDefEqProofs (disch := omega) only [go_sem, h1, h2, decide_true, decide_false, e6]
        refine hQ' _ _ _ (fun _ hs => hs) ⟨i + 1, by omega, hf, ?_, ?_, ?_, rfl⟩ ?_
        · simp -implicitDefEqProofs (disch := omega) only [go_sem, e0]
        · simp -implicitDefEqProofs (disch := omega) only [go_sem, e1]
        · simp -implicitDefEqProofs (disch := omega) only [go_sem]; rfl
        · simp -implicitDefEqProofs (disch := omega) only [go_sem, e6]; omega
    · rw [if_neg fun h => h1 h.1] at hf
      repeat (first | refine Tr_step (fun Q hq => by (simp -implicitDefEqProofs (disch := omega) only [go_sem, e0, e1, e6, hc0, hc1, h1, decide_false]; exact hq)) ?_ | refine Tr_guard (by (simp -implicitDefEqProofs only [go_sem, e0, e1, e6, hc0, hc1, h1, decide_false]; first | done | fail)) (fun Q hq => by (simp -implicitDefEqProofs (disch := omega) only [go_sem, e0, e1, e6, hc0, hc1, h1, decide_false]; exact hq)) ?_ | refine Tr_skip (.inl (by (simp -implicitDefEqProofs only [go_sem, e0, e1, e6, hc0, hc1, h1, decide_false]; first | done | fail))) ?_ | refine Tr_skip (.inr (by (simp -implicitDefEqProofs only [go_sem, e0, e1, e6, hc0, hc1, h1, decide_false]; first | done | fail))) ?_)
      refine To_nil ?_
      simp -implicitDefEqProofs (disch := omega) only [go_sem, h1, decide_false, e6]
      refine hQ' _ _ _ (fun _ hs => hs) ⟨i + 1, by omega, hf, ?_, ?_, ?_, rfl⟩ ?_
      · simp -implicitDefEqProofs (disch := omega) only [go_sem, e0]
      · simp -implicitDefEqProofs (disch := omega) only [go_sem, e1]
      · simp -implicitDefEqProofs (disch := omega) only [go_sem]; rfl
      · simp -implicitDefEqProofs (disch := omega) only [go_sem, e6]; omega
  · obtain rfl : i = l.length := by omega
    rw [List.drop_length, Tok.find] at hf
    rw [← hf] at hQ
    simp -implicitDefEqProofs (disch := omega) only [go_sem, e0, e6, Int.lt_irrefl, decide_false]
    exact hQ _ _ fun w' hs => ⟨rfl, hs.anchor (by simp)⟩

set_option maxHeartbeats 1000000 in
theorem rtok_size (l : List Tok.Tk) (a : Option Addr) (c : Nat) (hsm : Small l) (hl : l.length ≤ 2147483648) (w : World) (hr : Rd w a l.length 3 (ofL Tok.tkC Tok.tk0 l)) :
    Does Try.prog 27 #[.slice a l.length c] w fun v w' => v = .int .i64 (Tok.size l) ∧ Ext [] w w' := by
  refine does (args := [.slice a l.length c]) Try.func27 rfl (by kernel_rfl) (by kernel_rfl) rfl ent_27 (Sat.start w []) ?_; intro QV hQ
  by_cases h0 : l = []
  · subst h0
    simp -implicitDefEqProofs (disch := omega) only [go_sem]
    exact hQ _ _ fun w' hs => ⟨rfl, hs.anchor (by simp)⟩
  have hpos : 0 < l.length := List.length_pos_iff.2 h0
  have h1 : ¬ (l.length : Int) = 0 := by omega
  have hv : Tok.size l = (l.getD (l.length - 1) Tok.tk0).1 + (l.getD (l.length - 1) Tok.tk0).2.1 := by unfold Tok.size; rw [if_neg h0]
  obtain ⟨m, hm⟩ : ∃ m, l.length = m + 1 := ⟨l.length - 1, by omega⟩
  obtain ⟨b, o, rfl, hb, _, hc0, hc1, _⟩ := tk_at hr m (by omega)
  have hst := hsm (l.getD m Tok.tk0) (by
    rw [List.getD_eq_getElem?_getD, List.getElem?_eq_getElem (show m < l.length by omega)]; exact List.getElem_mem _)
  rw [show l.length - 1 = m by omega] at hv
  rw [hv] at hQ
  generalize l.getD m Tok.tk0 = t at *
  have hsub : (l.length : Int) - 1 = (m : Int) := by omega
  simp -implicitDefEqProofs (disch := omega) only [go_sem, h1, decide_false]
  refine RDraw_to 15 (by kernel_rfl) (by kernel_rfl) (by kernel_rfl) ?_
  repeat (first | refine Tr_step (fun Q hq => by (simp -implicitDefEqProofs (disch := omega) only [go_sem, hsub, hc0, hc1]; exact hq)) ?_ | refine Tr_guard (by (simp -implicitDefEqProofs only [go_sem, hsub, hc0, hc1]; first | done | fail)) (fun Q hq => by (simp -implicitDefEqProofs (disch := omega) only [go_sem, hsub, hc0, hc1]; exact hq)) ?_ | refine Tr_skip (.inl (by (simp -implicitDefEqProofs only [go_sem, hsub, hc0, hc1]; first | done | fail))) ?_ | refine Tr_skip (.inr (by (simp -implicitDefEqProofs only [go_sem, hsub, hc0, hc1]; first | done | fail))) ?_)
  refine To_nil ?_
  simp -implicitDefEqProofs (disch := omega) only [go_sem]
  exact hQ _ _ fun w' hs => ⟨rfl, hs.anchor (by simp)⟩

theorem tk_ne {t u : Tok.Tk} (h : ¬ t = u) : (decide (t.1 = u.1) && (decide (t.2.1 = u.2.1) && decide (t.2.2 = u.2.2))) = false := by
  rw [← Bool.decide_and, ← Bool.decide_and]
  refine decide_eq_false fun hc => h ?_
  obtain ⟨a, b, c⟩ := t
  obtain ⟨a', b', c'⟩ := u
  simp only [] at hc
  rw [hc.1, hc.2.1, hc.2.2]

set_option maxHeartbeats 1000000 in
theorem tok_same (l r : List Tok.Tk) (a a2 : Option Addr) (c c2 : Nat) (hl : l.length ≤ 2147483648) (hl2 : r.length ≤ 2147483648) (w : World) (hr : Rd w a l.length 3 (ofL Tok.tkC Tok.tk0 l)) (hr2 : Rd w a2 r.length 3 (ofL Tok.tkC Tok.tk0 r)) :
    Does Try.prog 21 #[.slice a l.length c, .slice a2 r.length c2] w fun v w' => v = .bool (decide (l = r)) ∧ Ext [] w w' := by
  refine does (args := [.slice a l.length c, .slice a2 r.length c2]) Try.func21 rfl (by kernel_rfl) (by kernel_rfl) rfl ent_21 (Sat.start w []) ?_; intro QV hQ
  by_cases h0 : l.length = r.length
  rotate_left
  · have h1 : ¬ (l.length : Int) = (r.length : Int) := by omega
    simp -implicitDefEqProofs (disch := omega) only [go_sem, h1, decide_false]
    exact hQ _ _ fun w' hs => ⟨by rw [decide_eq_false]; intro h; rw [h] at h0; exact h0 rfl, hs.anchor (by simp)⟩
  simp -implicitDefEqProofs (disch := omega) only [go_sem, h0, decide_true]
  refine RLoop_intro (fun f h => ∃ (i : Nat), i ≤ l.length ∧ l.take i = r.take i ∧ f 0 = .slice a l.length c ∧ f 1 = .slice a2 r.length c2 ∧ f 5 = .int .i64 (i : Int) ∧ h = [.anchor w []]) (fun f _ => (l.length - ival (f 5)).toNat) ?_ ?_
  · exact ⟨0, by omega, rfl, by simp -implicitDefEqProofs (disch := omega) only [go_sem]; rw [h0], by simp -implicitDefEqProofs (disch := omega) only [go_sem], by simp -implicitDefEqProofs (disch := omega) only [go_sem]; rfl, rfl⟩
  rintro f h ⟨i, hi, hf, e0, e1, e5, rfl⟩ Q' hQ'
  by_cases hil : i < l.length
  · have g1 : (i : Int) < (l.length : Int) := by omega
    obtain ⟨b, o, rfl, hb, hc, _⟩ := tk_at hr i hil
    obtain ⟨b2, o2, rfl, hb2, hc2, _⟩ := tk_at hr2 i (by omega)
    have ht := Tok.take_succ hil
    have ht2 := Tok.take_succ (l := r) (i := i) (by omega)
    have hget : l = r → l.getD i Tok.tk0 = r.getD i Tok.tk0 := fun h => by rw [h]
    generalize l.getD i Tok.tk0 = t at *
    generalize r.getD i Tok.tk0 = u at *
    simp -implicitDefEqProofs (disch := omega) only [go_sem, e0, e5, g1]
    refine RDraw_to 9 (by kernel_rfl) (by kernel_rfl) (by kernel_rfl) ?_
    by_cases h1 : t = u
    · subst h1
      repeat (first | refine Tr_step (fun Q hq => by (simp -implicitDefEqProofs (disch := omega) only [go_sem, e0, e1, e5, hc, hc2, decide_true, Bool.and_self]; exact hq)) ?_ | refine Tr_guard (by (simp -implicitDefEqProofs only [go_sem, e0, e1, e5, hc, hc2, decide_true, Bool.and_self]; first | done | fail)) (fun Q hq => by (simp -implicitDefEqProofs (disch := omega) only [go_sem, e0, e1, e5, hc, hc2, decide_true, Bool.and_self]; exact hq)) ?_ | refine Tr_skip (.inl (by (simp -implicitDefEqProofs only [go_sem, e0, e1, e5, hc, hc2, decide_true, Bool.and_self]; first | done | fail))) ?_ | refine Tr_skip (.inr (by (simp -implicitDefEqProofs only [go_sem, e0, e1, e5, hc, hc2, decide_true, Bool.and_self]; first | done | fail))) ?_)
      refine To_nil ?_
      simp -implicitDefEqProofs (disch := omega) only [go_sem, e5]
      refine hQ' _ _ _ (fun _ hs => hs) ⟨i + 1, by omega, ?_, ?_, ?_, ?_, rfl⟩ ?_
      · rw [ht, ht2, hf]
      · simp -implicitDefEqProofs (disch := omega) only [go_sem, e0]
      · simp -implicitDefEqProofs (disch := omega) only [go_sem, e1]
      · simp -implicitDefEqProofs (disch := omega) only [go_sem]; rfl
      · simp -implicitDefEqProofs (disch := omega) only [go_sem, e5]; omega
    · repeat (first | refine Tr_step (fun Q hq => by (simp -implicitDefEqProofs (disch := omega) only [go_sem, e0, e1, e5, hc, hc2, tk_ne h1]; exact hq)) ?_ | refine Tr_guard (by (simp -implicitDefEqProofs only [go_sem, e0, e1, e5, hc, hc2, tk_ne h1]; first | done | fail)) (fun Q hq => by (simp -implicitDefEqProofs (disch := omega) only [go_sem, e0, e1, e5, hc, hc2, tk_ne h1]; exact hq)) ?_ | refine Tr_skip (.inl (by (simp -implicitDefEqProofs only [go_sem, e0, e1, e5, hc, hc2, tk_ne h1]; first | done | fail))) ?_ | refine Tr_skip (.inr (by (simp -implicitDefEqProofs only [go_sem, e0, e1, e5, hc, hc2, tk_ne h1]; first | done | fail))) ?_)
      refine To_nil ?_
      simp -implicitDefEqProofs (disch := omega) only [go_sem]
      exact hQ _ _ fun w' hs => ⟨by rw [decide_eq_false]; intro h; exact h1 (hget h), hs.anchor (by simp)⟩
  · obtain rfl : i = l.length := by omega
    rw [List.take_length, h0, List.take_length] at hf
    simp -implicitDefEqProofs (disch := omega) only [go_sem, e0, e5, Int.lt_irrefl, decide_false]
    exact hQ _ _ fun w' hs => ⟨by rw [decide_eq_true hf], hs.anchor (by simp)⟩
end Go.Proofs.Ytpdckakccegofaa
