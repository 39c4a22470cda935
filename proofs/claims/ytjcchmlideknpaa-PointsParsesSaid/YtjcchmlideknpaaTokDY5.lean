/- tokens made of lengths and kinds: the walk. -/
import Derived.Test.YtjcchmlideknpaaTokCY5
namespace Go.Proofs.Ytjcchmlideknpaa
set_option linter.unusedSimpArgs false
set_option linter.unusedVariables false
open H

theorem i8_at {w : World} {a : Option Addr} {l : List Int} (hr : Rd w a l.length 1 (ofL (fun x => [.int .i8 x]) 0 l)) (i : Nat) (hi : i < l.length) : ∃ b o, a = some ⟨b, o, none⟩ ∧ b < w.heap.size ∧ w.cell? ⟨b, o + i, none⟩ = some (.int .i8 (l.getD i 0)) := by
  obtain ⟨b, o, e, hb, _, hj⟩ := hr.at_ i hi
  refine ⟨b, o, e, hb, ?_⟩
  have := hj 0 (by omega); rwa [Nat.mul_one, Nat.add_zero] at this
theorem u8_at {w : World} {a : Option Addr} {l : List UInt8} (hr : Rd w a l.length 1 (ofL (fun x => [byte x]) 0 l)) (i : Nat) (hi : i < l.length) : ∃ b o, a = some ⟨b, o, none⟩ ∧ b < w.heap.size ∧ w.cell? ⟨b, o + i, none⟩ = some (byte (l.getD i 0)) := by
  obtain ⟨b, o, e, hb, _, hj⟩ := hr.at_ i hi
  refine ⟨b, o, e, hb, ?_⟩
  have := hj 0 (by omega); rwa [Nat.mul_one, Nat.add_zero] at this
theorem ldrop {α : Type} {l : List α} {i : Nat} (d : α) (h : i < l.length) : l.drop i = l.getD i d :: l.drop (i + 1) := by
  rw [List.drop_eq_getElem_cons h, List.getD_eq_getElem?_getD, List.getElem?_eq_getElem h]; rfl

set_option maxRecDepth 20000 in
set_option maxHeartbeats 1000000 in
theorem rtok_made (ns : List UInt8) (ks : List Int) (a a2 : Option Addr) (c c2 : Nat) (hl : ns.length ≤ 1048576) (hl2 : ks.length ≤ maxLen) (hks : ∀ k ∈ ks, -128 ≤ k ∧ k ≤ 127) (w : World) (hr : Rd w a ns.length 1 (ofL (fun x => [byte x]) 0 ns)) (hr2 : Rd w a2 ks.length 1 (ofL (fun x => [.int .i8 x]) 0 ks)) :
    Does Try.prog 32 #[.slice a ns.length c, .slice a2 ks.length c2] w fun v w' => ∃ rs, Sat w' (rs ++ [.anchor w []]) ∧ NewToks v rs (Tok.made 0 ns ks) := by
  refine does (args := [.slice a ns.length c, .slice a2 ks.length c2]) Try.func32 rfl (by kernel_rfl) (by kernel_rfl) rfl ent_32 (Sat.start w []) ?_; intro QV hQ
  have hmx : (ks.length : Int) ≤ 9223372036854775807 := by simp only [maxLen] at hl2; omega
  simp -implicitDefEqProofs (disch := omega) only [go_sem]
  refine RLoop_from (fun f h => ∃ (i : Nat) (at_ : Int) (r : List Tok.Tk) (a' : Option Addr) (c' : Nat), i ≤ ns.length ∧ i ≤ ks.length ∧ r.length = i ∧ 0 ≤ at_ ∧ at_ ≤ 256 * i ∧ r.length ≤ c' ∧ r ++ Tok.made at_ (ns.drop i) (ks.drop i) = Tok.made 0 ns ks ∧ f 0 = .slice a ns.length c ∧ f 1 = .slice a2 ks.length c2 ∧ f 7 = .int .i64 (i : Int) ∧ f 6 = .int .i64 at_ ∧ f 5 = .slice a' r.length c' ∧ h = [Own 56 3 (.slice a' r.length c') r.length (r.flatMap Tok.tkC), .anchor w []]) (fun f _ => (ns.length - ival (f 7)).toNat) ?_ ?_
  · exact fun w1 hs => ⟨_, hs.own_nil 56 3, 0, 0, [], none, 0, by omega, by omega, rfl, by omega, by omega, Nat.le_refl _, rfl, by simp -implicitDefEqProofs (disch := omega) only [go_sem], by simp -implicitDefEqProofs (disch := omega) only [go_sem], by simp -implicitDefEqProofs (disch := omega) only [go_sem]; rfl, by simp -implicitDefEqProofs (disch := omega) only [go_sem], by (first | (simp -implicitDefEqProofs (disch := omega) only [go_sem]; done) | (simp -implicitDefEqProofs (disch := omega) only [go_sem]; rfl)), rfl⟩
  rintro f h ⟨i, at_, r, a', c', hi, hi2, hri, h0, h1, hc', hmd, e0, e1, e7, e6, e5, rfl⟩ Q' hQ'
  by_cases g1 : (i : Int) < (ns.length : Int)
  rotate_left
  · simp -implicitDefEqProofs (disch := omega) only [go_sem, e0, e1, e7, g1, decide_false]
    obtain rfl : i = ns.length := by omega
    rw [List.drop_length] at hmd
    have hnil : Tok.made at_ [] (ks.drop ns.length) = [] := by simp [Tok.made]
    rw [hnil, List.append_nil] at hmd
    simp -implicitDefEqProofs (disch := omega) only [go_sem, e5]
    exact hQ _ _ fun w' hs => ⟨_, hs, a', c', by rw [← hmd], by rw [← hmd]; exact hc', by rw [← hmd]⟩
  by_cases g2 : (i : Int) < (ks.length : Int)
  rotate_left
  · simp -implicitDefEqProofs (disch := omega) only [go_sem, e0, e1, e7, g1, g2, decide_true, decide_false]
    obtain rfl : i = ks.length := by omega
    rw [List.drop_length] at hmd
    have hnil : Tok.made at_ (ns.drop ks.length) [] = [] := by cases ns.drop ks.length <;> simp [Tok.made]
    rw [hnil, List.append_nil] at hmd
    simp -implicitDefEqProofs (disch := omega) only [go_sem, e5]
    exact hQ _ _ fun w' hs => ⟨_, hs, a', c', by rw [← hmd], by rw [← hmd]; exact hc', by rw [← hmd]⟩
  obtain ⟨b, o, rfl, hb, hc⟩ := u8_at hr i (by omega)
  obtain ⟨b2, o2, rfl, hb2, hc2⟩ := i8_at hr2 i (by omega)
  rw [ldrop 0 (show i < ns.length by omega), ldrop 0 (show i < ks.length by omega), Tok.made] at hmd
  have hk := hks (ks.getD i 0) (by
    rw [List.getD_eq_getElem?_getD, List.getElem?_eq_getElem (show i < ks.length by omega)]; exact List.getElem_mem _)
  generalize ns.getD i 0 = n at *
  generalize ks.getD i 0 = k at *
  have hn8 := n.toNat_lt
  have hmk := Tok.mk_len at_ n k
  have hmkv : Tok.mk at_ n k = if k.tmod 32 < 0 then (at_, 1, -1) else (at_, 1 + (n.toNat : Int), k.tmod 32) := rfl
  simp -implicitDefEqProofs (disch := omega) only [go_sem, e0, e1, e7, g1, g2, decide_true]
  refine RDraw_seg (by kernel_rfl) (by kernel_rfl) 16 rfl ?_
  refine RS_cut (List.range 14) [14, 15] (by kernel_rfl) ?_
  refine RS_det (by kernel_rfl) ?_
  repeat (first | refine ToO_step (fun Q hq => by (simp -implicitDefEqProofs (disch := omega) only [go_sem, e0, e1, e6, e7, hc, hc2]; exact hq)) ?_ | refine ToO_guard (by (simp -implicitDefEqProofs only [go_sem, e0, e1, e6, e7, hc, hc2]; first | done | fail)) (fun Q hq => by (simp -implicitDefEqProofs (disch := omega) only [go_sem, e0, e1, e6, e7, hc, hc2]; exact hq)) ?_ | refine ToO_skip (.inl (by (simp -implicitDefEqProofs only [go_sem, e0, e1, e6, e7, hc, hc2]; first | done | fail))) ?_ | refine ToO_skip (.inr (by (simp -implicitDefEqProofs only [go_sem, e0, e1, e6, e7, hc, hc2]; first | done | fail))) ?_)
  refine ToO_nil ?_
  refine RS_text (by kernel_rfl) ?_
  simp -implicitDefEqProofs (disch := omega) only [go_sem]
  refine RNew_intro fun g hg => ?_
  simp only [below_cons, below_nil, under_anchor, and_true] at hg
  simp -implicitDefEqProofs (disch := omega) only [go_sem]
  have hm32 : -32 < k.tmod 32 ∧ k.tmod 32 < 32 := by
    have h1 := Int.tmod_lt_of_pos k (show (0 : Int) < 32 by decide)
    have h2 := Int.lt_tmod_of_pos k (show (0 : Int) < 32 by decide)
    omega
  generalize hkm : k.tmod 32 = m at *
  by_cases g3 : m < 0
  · rw [if_pos g3] at hmkv
    have hb2 : (Tok.mk at_ n k).2.1 = 1 := by rw [hmkv]
    simp -implicitDefEqProofs (disch := omega) only [go_sem, g3, decide_true, e5]
    refine RRun_build1z (cs := [.int .i64 at_, .int .i64 1, .int .i64 (-1)]) tok_sl rfl (by omega) fun g hg => ?_
    simp -implicitDefEqProofs (disch := omega) only [go_sem, e5]
    refine RRun_append_cells tok_sl (fun _ hs => hs.2.2.2.swap2) rfl (tkC_cells (at_, 1, -1)) (by omega) (by simp only [maxLen]; omega) fun a'' c'' hc'' => ?_
    simp -implicitDefEqProofs (disch := omega) only [go_sem, e6, e7]
    refine hQ' _ _ fun w1 hs => ⟨_, hs.drop2, ⟨i + 1, at_ + (Tok.mk at_ n k).2.1, r ++ [Tok.mk at_ n k], a'', c'', by omega, by omega, by rw [List.length_append, hri]; rfl, by omega, by omega, ?_, ?_, ?_, ?_, ?_, ?_, ?_, ?_⟩, ?_⟩
    · rw [List.length_append]; exact hc''
    · rw [List.append_assoc]; exact hmd
    · simp -implicitDefEqProofs (disch := omega) only [go_sem, e0]
    · simp -implicitDefEqProofs (disch := omega) only [go_sem, e1]
    · simp -implicitDefEqProofs (disch := omega) only [go_sem]; rfl
    · simp -implicitDefEqProofs (disch := omega) only [go_sem]; rw [hmkv]
    · simp -implicitDefEqProofs (disch := omega) only [go_sem]; rw [List.length_append]; rfl
    · rw [tkC_one, List.length_append, hmkv]; rfl
    · simp -implicitDefEqProofs (disch := omega) only [go_sem, e7]; omega
  · rw [if_neg g3] at hmkv
    have hb2 : (Tok.mk at_ n k).2.1 = 1 + (n.toNat : Int) := by rw [hmkv]
    simp -implicitDefEqProofs (disch := omega) only [go_sem, g3, decide_false, e5]
    refine RRun_build1z (cs := [.int .i64 at_, .int .i64 (1 + (n.toNat : Int)), .int .i64 m]) tok_sl rfl (by omega) fun g hg => ?_
    simp -implicitDefEqProofs (disch := omega) only [go_sem, e5]
    refine RRun_append_cells tok_sl (fun _ hs => hs.2.2.2.swap2) rfl (tkC_cells (at_, 1 + (n.toNat : Int), m)) (by omega) (by simp only [maxLen]; omega) fun a'' c'' hc'' => ?_
    simp -implicitDefEqProofs (disch := omega) only [go_sem, e6, e7]
    refine hQ' _ _ fun w1 hs => ⟨_, hs.drop2, ⟨i + 1, at_ + (Tok.mk at_ n k).2.1, r ++ [Tok.mk at_ n k], a'', c'', by omega, by omega, by rw [List.length_append, hri]; rfl, by omega, by omega, ?_, ?_, ?_, ?_, ?_, ?_, ?_, ?_⟩, ?_⟩
    · rw [List.length_append]; exact hc''
    · rw [List.append_assoc]; exact hmd
    · simp -implicitDefEqProofs (disch := omega) only [go_sem, e0]
    · simp -implicitDefEqProofs (disch := omega) only [go_sem, e1]
    · simp -implicitDefEqProofs (disch := omega) only [go_sem]; rfl
    · simp -implicitDefEqProofs (disch := omega) only [go_sem]; rw [hmkv]
    · simp -implicitDefEqProofs (disch := omega) only [go_sem]; rw [List.length_append]; rfl
    · rw [tkC_one, List.length_append, hmkv]; rfl
    · simp -implicitDefEqProofs (disch := omega) only [go_sem, e7]; omega
end Go.Proofs.Ytjcchmlideknpaa
