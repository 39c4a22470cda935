/- table and its reference: the walks: a number read. table's law and its reference: the walks: small parts. -/
import Derived.Test.YtldidoaagijnhaaTbC
namespace Go.Proofs.Ytldidoaagijnhaa
set_option linter.unusedSimpArgs false
set_option linter.unusedVariables false
open H
namespace Tb
/-- The number at a place, at most so great, as long as all was there. -/
def num (s : List UInt8) (most a : Int) (wh : Bool) : Int × Int × Bool := if wh = true ∧ (Vint.get s a).2.2 = 0 ∧ (Vint.get s a).1 ≤ most then ((Vint.get s a).1, (Vint.get s a).2.1, true) else (0, a, false)
theorem num_in (s : List UInt8) (most a : Int) (wh : Bool) (h0 : 0 ≤ a) (h1 : a ≤ s.length) : 0 ≤ (num s most a wh).1 ∧ (num s most a wh).1 ≤ max 0 most ∧ (num s most a wh).1 ≤ 9223372036854775807 ∧ a ≤ (num s most a wh).2.1 ∧ (num s most a wh).2.1 ≤ s.length := by
  unfold num
  split
  · rename_i h
    obtain ⟨m, t, e, h2, h3, h4, h5, _⟩ := Vint.get_ok s a h.2.1
    have h6 := h.2.2
    rw [e] at h6 ⊢
    simp only [] at h6 ⊢
    omega
  · simp only []; omega
theorem num_off (s : List UInt8) (most a : Int) : num s most a false = (0, a, false) := by unfold num; rw [if_neg (by simp)]
theorem num_zero {s : List UInt8} {most a : Int} {wh : Bool} (h : (num s most a wh).2.2 = false) : (num s most a wh).1 = 0 := by
  unfold num at *
  split at h
  · cases h
  · rename_i hc; rw [if_neg hc]
end Tb
/-- What a number read leaves. -/
def TNumLeft (t : TypeId) (s : List UInt8) (most a : Int) (wh : Bool) (g7 : Nat) (v : Value) (rs : List Res) : Prop :=
  v = .int .i64 (Tb.num s most a wh).1 ∧ rs = [.cells g7 t #[str s, .int .i64 (Tb.num s most a wh).2.1, .bool (!(Tb.num s most a wh).2.2)]]
set_option maxRecDepth 20000 in
set_option maxHeartbeats 1000000 in
theorem tb_num (s : List UInt8) (hsl : s.length ≤ 9223372036854775807) (most a : Int) (wh : Bool) (ha : -9223372036854775808 ≤ a ∧ a ≤ 9223372036854775807) (g7 : Nat) (w : World)
    (hs0 : Sat w [.cells g7 92 #[str s, .int .i64 a, .bool (!wh)], .anchor w [g7]]) :
    Does Try.prog 73 #[.pointer (some ⟨g7, 0, none⟩), .int .i64 most] w fun v w' => ∃ rs, Sat w' (rs ++ [.anchor w [g7]]) ∧ TNumLeft 92 s most a wh g7 v rs := by
  refine does (args := [.pointer (some ⟨g7, 0, none⟩), .int .i64 most]) Try.func73 rfl (by kernel_rfl) (by kernel_rfl) rfl ent_73 (hs0) ?_; intro QV hQ
  unfold TNumLeft at hQ
  unfold Tb.num at hQ
  simp -implicitDefEqProofs (disch := omega) only [go_sem]
  refine RDraw_seg (by kernel_rfl) (by kernel_rfl) 16 rfl ?_
  refine RS_det (by kernel_rfl) ?_
  repeat (first | refine ToO_step (fun Q hq => by (simp -implicitDefEqProofs (disch := omega) only [go_sem]; exact hq)) ?_ | refine ToO_guard (by (simp -implicitDefEqProofs only [go_sem]; first | done | fail)) (fun Q hq => by (simp -implicitDefEqProofs (disch := omega) only [go_sem]; exact hq)) ?_ | refine ToO_skip (.inl (by (simp -implicitDefEqProofs only [go_sem]; first | done | fail))) ?_ | refine ToO_skip (.inr (by (simp -implicitDefEqProofs only [go_sem]; first | done | fail))) ?_)
  first | refine ToO_step (fun Q hq => by (simp -implicitDefEqProofs (disch := omega) only [go_sem]; refine RCall_eq (vint_get s hsl a ha) ?_; simp -implicitDefEqProofs (disch := omega) only [go_sem]; exact hq)) ?_ | refine ToO_guard (by (simp -implicitDefEqProofs only [go_sem]; first | done | fail)) (fun Q hq => by (simp -implicitDefEqProofs (disch := omega) only [go_sem]; refine RCall_eq (vint_get s hsl a ha) ?_; simp -implicitDefEqProofs (disch := omega) only [go_sem]; exact hq)) ?_
  repeat (first | refine ToO_step (fun Q hq => by (simp -implicitDefEqProofs (disch := omega) only [go_sem]; exact hq)) ?_ | refine ToO_guard (by (simp -implicitDefEqProofs only [go_sem]; first | done | fail)) (fun Q hq => by (simp -implicitDefEqProofs (disch := omega) only [go_sem]; exact hq)) ?_ | refine ToO_skip (.inl (by (simp -implicitDefEqProofs only [go_sem]; first | done | fail))) ?_ | refine ToO_skip (.inr (by (simp -implicitDefEqProofs only [go_sem]; first | done | fail))) ?_)
  refine ToO_nil ?_
  generalize hg : Vint.get s a = g at *
  obtain ⟨n, to, e⟩ := g
  simp only [] at hQ
  cases wh with
  | false =>
    simp -implicitDefEqProofs (disch := omega) only [go_sem, Bool.not_false]
    exact hQ _ _ fun w' hs => ⟨_, hs, rfl, rfl⟩
  | true =>
    by_cases he : e = 0
    · by_cases hm : n ≤ most
      · have hm' : ¬ most < n := by omega
        rw [if_pos ⟨rfl, he, hm⟩] at hQ
        simp -implicitDefEqProofs (disch := omega) only [go_sem, he, hm', decide_true, decide_false, Bool.not_true]
        exact hQ _ _ fun w' hs => ⟨_, hs, rfl, rfl⟩
      · have hm' : most < n := by omega
        rw [if_neg (fun h => hm h.2.2)] at hQ
        simp -implicitDefEqProofs (disch := omega) only [go_sem, he, hm', decide_true, decide_false, Bool.not_true]
        exact hQ _ _ fun w' hs => ⟨_, hs, rfl, rfl⟩
    · rw [if_neg (fun h => he h.2.1)] at hQ
      simp -implicitDefEqProofs (disch := omega) only [go_sem, he, decide_false, Bool.not_true]
      exact hQ _ _ fun w' hs => ⟨_, hs, rfl, rfl⟩
set_option maxRecDepth 20000 in
set_option maxHeartbeats 1000000 in
theorem rtb_num (s : List UInt8) (hsl : s.length ≤ 9223372036854775807) (most a : Int) (wh : Bool) (ha : -9223372036854775808 ≤ a ∧ a ≤ 9223372036854775807) (g7 : Nat) (w : World)
    (hs0 : Sat w [.cells g7 98 #[str s, .int .i64 a, .bool (!wh)], .anchor w [g7]]) :
    Does Try.prog 76 #[.pointer (some ⟨g7, 0, none⟩), .int .i64 most] w fun v w' => ∃ rs, Sat w' (rs ++ [.anchor w [g7]]) ∧ TNumLeft 98 s most a wh g7 v rs := by
  refine does (args := [.pointer (some ⟨g7, 0, none⟩), .int .i64 most]) Try.func76 rfl (by kernel_rfl) (by kernel_rfl) rfl ent_76 (hs0) ?_; intro QV hQ
  unfold TNumLeft at hQ
  unfold Tb.num at hQ
  simp -implicitDefEqProofs (disch := omega) only [go_sem]
  refine RDraw_seg (by kernel_rfl) (by kernel_rfl) 16 rfl ?_
  refine RS_det (by kernel_rfl) ?_
  repeat (first | refine ToO_step (fun Q hq => by (simp -implicitDefEqProofs (disch := omega) only [go_sem]; exact hq)) ?_ | refine ToO_guard (by (simp -implicitDefEqProofs only [go_sem]; first | done | fail)) (fun Q hq => by (simp -implicitDefEqProofs (disch := omega) only [go_sem]; exact hq)) ?_ | refine ToO_skip (.inl (by (simp -implicitDefEqProofs only [go_sem]; first | done | fail))) ?_ | refine ToO_skip (.inr (by (simp -implicitDefEqProofs only [go_sem]; first | done | fail))) ?_)
  first | refine ToO_step (fun Q hq => by (simp -implicitDefEqProofs (disch := omega) only [go_sem]; refine RCall_eq (ref_get s hsl a ha) ?_; simp -implicitDefEqProofs (disch := omega) only [go_sem]; exact hq)) ?_ | refine ToO_guard (by (simp -implicitDefEqProofs only [go_sem]; first | done | fail)) (fun Q hq => by (simp -implicitDefEqProofs (disch := omega) only [go_sem]; refine RCall_eq (ref_get s hsl a ha) ?_; simp -implicitDefEqProofs (disch := omega) only [go_sem]; exact hq)) ?_
  repeat (first | refine ToO_step (fun Q hq => by (simp -implicitDefEqProofs (disch := omega) only [go_sem]; exact hq)) ?_ | refine ToO_guard (by (simp -implicitDefEqProofs only [go_sem]; first | done | fail)) (fun Q hq => by (simp -implicitDefEqProofs (disch := omega) only [go_sem]; exact hq)) ?_ | refine ToO_skip (.inl (by (simp -implicitDefEqProofs only [go_sem]; first | done | fail))) ?_ | refine ToO_skip (.inr (by (simp -implicitDefEqProofs only [go_sem]; first | done | fail))) ?_)
  refine ToO_nil ?_
  generalize hg : Vint.get s a = g at *
  obtain ⟨n, to, e⟩ := g
  simp only [] at hQ
  cases wh with
  | false =>
    simp -implicitDefEqProofs (disch := omega) only [go_sem, Bool.not_false]
    exact hQ _ _ fun w' hs => ⟨_, hs, rfl, rfl⟩
  | true =>
    by_cases he : e = 0
    · by_cases hm : n ≤ most
      · have hm' : ¬ most < n := by omega
        rw [if_pos ⟨rfl, he, hm⟩] at hQ
        simp -implicitDefEqProofs (disch := omega) only [go_sem, he, hm', decide_true, decide_false, Bool.not_true]
        exact hQ _ _ fun w' hs => ⟨_, hs, rfl, rfl⟩
      · have hm' : most < n := by omega
        rw [if_neg (fun h => hm h.2.2)] at hQ
        simp -implicitDefEqProofs (disch := omega) only [go_sem, he, hm', decide_true, decide_false, Bool.not_true]
        exact hQ _ _ fun w' hs => ⟨_, hs, rfl, rfl⟩
    · rw [if_neg (fun h => he h.2.1)] at hQ
      simp -implicitDefEqProofs (disch := omega) only [go_sem, he, decide_false, Bool.not_true]
      exact hQ _ _ fun w' hs => ⟨_, hs, rfl, rfl⟩
open H
theorem law_sound (s : List UInt8) (hsl : s.length ≤ 1000000000) (w : World) : Does Try.prog 30 #[str s] w fun v w' => v = str (s ++ Tb.sumB s) ∧ Ext [] w w' := by
  refine does (args := [str s]) Try.func30 rfl (by kernel_rfl) (by kernel_rfl) rfl ent_30 (Sat.start w []) ?_; intro QV hQ
  have hlt := (Crc.of s).isLt
  have hsum := Tb.sumB_len s
  simp -implicitDefEqProofs (disch := omega) only [go_sem]
  refine RCall_eq (ref_of s (by omega)) ?_
  simp -implicitDefEqProofs (disch := omega) only [go_sem]
  refine RCall_eq (ref_fixed _ 4 (by omega)) ?_
  rw [tcrc_fix]
  simp -implicitDefEqProofs (disch := omega) only [go_sem]
  exact hQ _ _ fun w' hs => ⟨rfl, hs.anchor (by simp)⟩
theorem rtb_put (n : Int) (h : Tb.In64 n) (w : World) : Does Try.prog 55 #[.int .i64 n] w fun v w' => v = str (Vint.put n).1 ∧ Ext [] w w' := by
  refine does (args := [.int .i64 n]) Try.func55 rfl (by kernel_rfl) (by kernel_rfl) rfl ent_55 (Sat.start w []) ?_; intro QV hQ
  simp -implicitDefEqProofs (disch := omega) only [go_sem]
  refine RCall_eq (ref_put n h) ?_
  simp -implicitDefEqProofs (disch := omega) only [go_sem]
  exact hQ _ _ fun w' hs => ⟨rfl, hs.anchor (by simp)⟩
set_option maxRecDepth 20000 in
set_option maxHeartbeats 1000000 in
theorem ref_ints (n m : List Int) (a1 a2 : Option Addr) (c1 c2 : Nat) (hl1 : n.length ≤ 2147483648) (hl2 : m.length ≤ 2147483648) (w : World) (hr1 : Rd w a1 n.length 1 (Dfa.ints n)) (hr2 : Rd w a2 m.length 1 (Dfa.ints m)) :
    Does Try.prog 29 #[.slice a1 n.length c1, .slice a2 m.length c2] w fun v w' => v = .bool (decide (n = m)) ∧ Ext [] w w' := by
  refine does (args := [.slice a1 n.length c1, .slice a2 m.length c2]) Try.func29 rfl (by kernel_rfl) (by kernel_rfl) rfl ent_29 (Sat.start w []) ?_; intro QV hQ
  by_cases h0 : n.length = m.length
  rotate_left
  · have h0' : ¬ (n.length : Int) = (m.length : Int) := by omega
    simp -implicitDefEqProofs (disch := omega) only [go_sem, h0', decide_false]
    exact hQ _ _ fun w' hs => ⟨by rw [decide_eq_false (fun h => h0 (by rw [h]))], hs.anchor (by simp)⟩
  have h0' : (n.length : Int) = (m.length : Int) := by omega
  simp -implicitDefEqProofs (disch := omega) only [go_sem, h0', decide_true]
  refine RLoop_intro (fun f h => ∃ (i : Nat), i ≤ m.length ∧ n.take i = m.take i ∧ f 0 = .slice a1 n.length c1 ∧ f 1 = .slice a2 m.length c2 ∧ f 5 = .int .i64 (i : Int) ∧ h = [.anchor w []]) (fun f _ => (m.length - ival (f 5)).toNat) ?_ ?_
  · exact ⟨0, by omega, rfl, by (first | (simp -implicitDefEqProofs (disch := omega) only [go_sem]; done) | (simp -implicitDefEqProofs (disch := omega) only [go_sem]; rfl)), by (first | (simp -implicitDefEqProofs (disch := omega) only [go_sem]; done) | (simp -implicitDefEqProofs (disch := omega) only [go_sem]; rfl)), by (first | (simp -implicitDefEqProofs (disch := omega) only [go_sem]; done) | (simp -implicitDefEqProofs (disch := omega) only [go_sem]; rfl)), rfl⟩
  rintro f h ⟨i, hi, hf, e0, e1, e5, rfl⟩ Q' hQ'
  by_cases hil : i < m.length
  · have hil' : i < n.length := by omega
    have g1 : (i : Int) < (m.length : Int) := by omega
    have g2 : (i : Int) < (n.length : Int) := by omega
    obtain ⟨b, o, rfl, hb, hc⟩ := Dfa.ints_at hr1 i hil'
    obtain ⟨b2, o2, rfl, hb2, hc2⟩ := Dfa.ints_at hr2 i hil
    have ht := Dfa.take_succ n 0 i hil'
    have ht2 := Dfa.take_succ m 0 i hil
    have hget : n = m → n.getD i 0 = m.getD i 0 := fun h => by rw [h]
    generalize n.getD i 0 = t at *
    generalize m.getD i 0 = u at *
    simp -implicitDefEqProofs (disch := omega) only [go_sem, e0, e1, e5, g1, g2, decide_true]
    refine RDraw_seg (by kernel_rfl) (by kernel_rfl) 9 rfl ?_
    refine RS_det (by kernel_rfl) ?_
    by_cases h1 : t = u
    · subst h1
      repeat (first | refine ToO_step (fun Q hq => by (simp -implicitDefEqProofs (disch := omega) only [go_sem, e0, e1, e5, g1, g2, hc, hc2, decide_true]; exact hq)) ?_ | refine ToO_guard (by (simp -implicitDefEqProofs only [go_sem, e0, e1, e5, g1, g2, hc, hc2, decide_true]; first | done | fail)) (fun Q hq => by (simp -implicitDefEqProofs (disch := omega) only [go_sem, e0, e1, e5, g1, g2, hc, hc2, decide_true]; exact hq)) ?_ | refine ToO_skip (.inl (by (simp -implicitDefEqProofs only [go_sem, e0, e1, e5, g1, g2, hc, hc2, decide_true]; first | done | fail))) ?_ | refine ToO_skip (.inr (by (simp -implicitDefEqProofs only [go_sem, e0, e1, e5, g1, g2, hc, hc2, decide_true]; first | done | fail))) ?_)
      refine ToO_nil ?_
      simp -implicitDefEqProofs (disch := omega) only [go_sem, e0, e1, e5]
      refine hQ' _ _ _ (fun _ hs => hs) ⟨i + 1, by omega, by rw [ht, ht2, hf], ?_, ?_, ?_, rfl⟩ ?_
      · (first | (simp -implicitDefEqProofs (disch := omega) only [go_sem, e0, e1, e5]; done) | (simp -implicitDefEqProofs (disch := omega) only [go_sem, e0, e1, e5]; rfl))
      · (first | (simp -implicitDefEqProofs (disch := omega) only [go_sem, e0, e1, e5]; done) | (simp -implicitDefEqProofs (disch := omega) only [go_sem, e0, e1, e5]; rfl))
      · (first | (simp -implicitDefEqProofs (disch := omega) only [go_sem, e0, e1, e5]; done) | (simp -implicitDefEqProofs (disch := omega) only [go_sem, e0, e1, e5]; rfl))
      · simp -implicitDefEqProofs (disch := omega) only [go_sem, e0, e1, e5]; omega
    · repeat (first | refine ToO_step (fun Q hq => by (simp -implicitDefEqProofs (disch := omega) only [go_sem, e0, e1, e5, g1, g2, hc, hc2, h1, decide_false]; exact hq)) ?_ | refine ToO_guard (by (simp -implicitDefEqProofs only [go_sem, e0, e1, e5, g1, g2, hc, hc2, h1, decide_false]; first | done | fail)) (fun Q hq => by (simp -implicitDefEqProofs (disch := omega) only [go_sem, e0, e1, e5, g1, g2, hc, hc2, h1, decide_false]; exact hq)) ?_ | refine ToO_skip (.inl (by (simp -implicitDefEqProofs only [go_sem, e0, e1, e5, g1, g2, hc, hc2, h1, decide_false]; first | done | fail))) ?_ | refine ToO_skip (.inr (by (simp -implicitDefEqProofs only [go_sem, e0, e1, e5, g1, g2, hc, hc2, h1, decide_false]; first | done | fail))) ?_)
      refine ToO_nil ?_
      simp -implicitDefEqProofs (disch := omega) only [go_sem, e0, e1, e5]
      exact hQ _ _ fun w' hs => ⟨by rw [decide_eq_false (fun h => h1 (hget h))], hs.anchor (by simp)⟩
  have g1 : ¬ (i : Int) < (m.length : Int) := by omega
  have g2 : ¬ (i : Int) < (n.length : Int) := by omega
  rw [List.take_of_length_le (by omega), List.take_of_length_le (by omega)] at hf
  simp -implicitDefEqProofs (disch := omega) only [go_sem, e0, e1, e5, g1, g2, decide_false]
  exact hQ _ _ fun w' hs => ⟨by rw [decide_eq_true hf], hs.anchor (by simp)⟩
end Go.Proofs.Ytldidoaagijnhaa
