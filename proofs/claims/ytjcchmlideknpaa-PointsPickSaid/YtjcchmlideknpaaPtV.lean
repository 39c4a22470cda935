/- points' reference: the walk: the point of a start. -/
import Derived.Test.YtjcchmlideknpaaPtU
namespace Go.Proofs.Ytjcchmlideknpaa
set_option linter.unusedSimpArgs false
set_option linter.unusedVariables false
open H
theorem tk0_at {w : World} {a : Option Addr} {l : List Tok.Tk} (hr : Rd w a l.length 3 (ofL Tok.tkC Tok.tk0 l)) (i : Nat) (hi : i < l.length) : ∃ b o, a = some ⟨b, o, none⟩ ∧ b < w.heap.size ∧ w.cell? ⟨b, o + i * 3, none⟩ = some (.int .i64 (l.getD i Tok.tk0).1) := by
  obtain ⟨b, o, e, hb, _, h0, _⟩ := tk_at hr i hi
  exact ⟨b, o, e, hb, h0⟩
set_option maxRecDepth 20000 in
set_option maxHeartbeats 2000000 in
theorem rpts_point (x : Pt.St) (t : List UInt8) (l : List Tok.Tk) (al : Option Addr) (cl : Nat) (hx : 0 ≤ x.2 ∧ x.2 ≤ t.length) (ht : t.length ≤ 9223372036854775807) (hll : l.length ≤ 2147483648) (hsm : Small l) (w : World)
    (hr : Rd w al l.length 3 (ofL Tok.tkC Tok.tk0 l)) :
    Does Try.prog 42 #[.agg #[.int .i64 x.1, .int .i64 x.2], str t, .slice al l.length cl] w fun v w' => v = ptV (Pt.point t l x) ∧ Ext [] w w' := by
  refine does (args := [.agg #[.int .i64 x.1, .int .i64 x.2], str t, .slice al l.length cl]) Try.func42 rfl (by kernel_rfl) (by kernel_rfl) rfl ent_42 (Sat.start w []) ?_; intro QV hQ
  obtain ⟨xb, xo⟩ := x
  simp only [] at hx
  obtain ⟨hx0, hx1⟩ := hx
  simp -implicitDefEqProofs (disch := omega) only [go_sem]
  refine RNew_intro fun g3 hg3 => ?_
  simp -implicitDefEqProofs (disch := omega) only [go_sem]
  refine RNew_intro fun g4 hg4 => ?_
  have n34 : g3 ≠ g4 := Nat.ne_of_lt hg4.1
  have hg3' : w.heap.size ≤ g3 := hg3.1
  have hg4' : w.heap.size ≤ g4 := hg4.2.1
  simp -implicitDefEqProofs (disch := omega) only [go_sem]
  refine RDraw_seg (by kernel_rfl) (by kernel_rfl) 13 rfl ?_
  refine RS_cutR [0, 1, 2, 3, 4, 5, 6, 7, 8, 9, 10, 11] [12] (by decide +kernel) ?_
  apply RS_new [0, 1, 2, 3, 4, 5, 6, 7, 8, 9, 10] 11 7 46 #[.int .i64 0, .int .i64 0, .int .i64 0, .int .i64 0, str []] (by decide +kernel) (by kernel_rfl)
  · repeat (first | refine ToO_step (fun Q hq => by (simp -implicitDefEqProofs (disch := omega) only [go_sem, n34]; exact hq)) ?_ | refine ToO_guard (by (simp -implicitDefEqProofs only [go_sem, n34]; first | done | fail)) (fun Q hq => by (simp -implicitDefEqProofs (disch := omega) only [go_sem, n34]; exact hq)) ?_ | refine ToO_skip (.inl (by (simp -implicitDefEqProofs only [go_sem, n34]; first | done | fail))) ?_ | refine ToO_skip (.inr (by (simp -implicitDefEqProofs only [go_sem, n34]; first | done | fail))) ?_)
    first | refine ToO_step (fun Q hq => by (simp -implicitDefEqProofs (disch := omega) only [go_sem]; refine RCall_eqS (fun w1 hs => rtok_ended l al cl xo hsm hll w1 (hr.keep (hs.anchor (by simp)))) ?_; simp -implicitDefEqProofs (disch := omega) only [go_sem]; exact hq)) ?_ | refine ToO_guard (by (simp -implicitDefEqProofs only [go_sem]; first | done | fail)) (fun Q hq => by (simp -implicitDefEqProofs (disch := omega) only [go_sem]; refine RCall_eqS (fun w1 hs => rtok_ended l al cl xo hsm hll w1 (hr.keep (hs.anchor (by simp)))) ?_; simp -implicitDefEqProofs (disch := omega) only [go_sem]; exact hq)) ?_
    repeat (first | refine ToO_step (fun Q hq => by (simp -implicitDefEqProofs (disch := omega) only [go_sem, n34]; exact hq)) ?_ | refine ToO_guard (by (simp -implicitDefEqProofs only [go_sem, n34]; first | done | fail)) (fun Q hq => by (simp -implicitDefEqProofs (disch := omega) only [go_sem, n34]; exact hq)) ?_ | refine ToO_skip (.inl (by (simp -implicitDefEqProofs only [go_sem, n34]; first | done | fail))) ?_ | refine ToO_skip (.inr (by (simp -implicitDefEqProofs only [go_sem, n34]; first | done | fail))) ?_)
    exact ToO_nil rfl
  · intro gp hgp
    have n4 : g4 ≠ gp := Nat.ne_of_lt hgp.1
    have n1 : g3 ≠ gp := Nat.ne_of_lt hgp.2.1
    repeat (first | refine ToO_step (fun Q hq => by (simp -implicitDefEqProofs (disch := omega) only [go_sem, n34, n1]; exact hq)) ?_ | refine ToO_guard (by (simp -implicitDefEqProofs only [go_sem, n34, n1]; first | done | fail)) (fun Q hq => by (simp -implicitDefEqProofs (disch := omega) only [go_sem, n34, n1]; exact hq)) ?_ | refine ToO_skip (.inl (by (simp -implicitDefEqProofs only [go_sem, n34, n1]; first | done | fail))) ?_ | refine ToO_skip (.inr (by (simp -implicitDefEqProofs only [go_sem, n34, n1]; first | done | fail))) ?_)
    first | refine ToO_step (fun Q hq => by (simp -implicitDefEqProofs (disch := omega) only [go_sem]; refine RCall_eqS (fun w1 hs => rtok_ended l al cl xo hsm hll w1 (hr.keep (hs.anchor (by simp)))) ?_; simp -implicitDefEqProofs (disch := omega) only [go_sem]; exact hq)) ?_ | refine ToO_guard (by (simp -implicitDefEqProofs only [go_sem]; first | done | fail)) (fun Q hq => by (simp -implicitDefEqProofs (disch := omega) only [go_sem]; refine RCall_eqS (fun w1 hs => rtok_ended l al cl xo hsm hll w1 (hr.keep (hs.anchor (by simp)))) ?_; simp -implicitDefEqProofs (disch := omega) only [go_sem]; exact hq)) ?_
    repeat (first | refine ToO_step (fun Q hq => by (simp -implicitDefEqProofs (disch := omega) only [go_sem, n34, n1]; exact hq)) ?_ | refine ToO_guard (by (simp -implicitDefEqProofs only [go_sem, n34, n1]; first | done | fail)) (fun Q hq => by (simp -implicitDefEqProofs (disch := omega) only [go_sem, n34, n1]; exact hq)) ?_ | refine ToO_skip (.inl (by (simp -implicitDefEqProofs only [go_sem, n34, n1]; first | done | fail))) ?_ | refine ToO_skip (.inr (by (simp -implicitDefEqProofs only [go_sem, n34, n1]; first | done | fail))) ?_)
    exact ToO_nil rfl
  intro gp hgp
  have n4 : g4 ≠ gp := Nat.ne_of_lt hgp.1
  have n1 : g3 ≠ gp := Nat.ne_of_lt hgp.2.1
  have hgp' : w.heap.size ≤ gp := hgp.2.2.1
  refine RS_text (by kernel_rfl) ?_
  obtain ⟨n, hn⟩ : ∃ n : Nat, n = Tok.ended l xo := ⟨_, rfl⟩
  have hnl : n ≤ l.length := by rw [hn]; unfold Tok.ended; exact List.countP_le_length
  have hpt : Pt.point t l (xb, xo) = ⟨xb, xo, (n : Nat), if n < l.length then (l.getD n Tok.tk0).1 else (t.length : Int), Pt.win t xo⟩ := by rw [hn]; rfl
  rw [hpt] at hQ
  rw [← hn]
  have hhi : xo.toNat ≤ t.length := by omega
  have hwin : List.take (xo.toNat - (max 0 (xo - 32768)).toNat) (List.drop (max 0 (xo - 32768)).toNat t) = Pt.win t xo := by
    unfold Pt.win
    rw [List.drop_take, show (max 0 (xo - 32768)).toNat = (xo - 32768).toNat by omega]
  by_cases h : n < l.length
  · rw [if_pos h] at hQ
    have g1 : (n : Int) < (l.length : Int) := by omega
    obtain ⟨b, o, rfl, hb, hc⟩ := tk0_at hr n h
    have m3 : b ≠ g3 := by omega
    have m4 : b ≠ g4 := by omega
    have m5 : b ≠ gp := by omega
    generalize l.getD n Tok.tk0 = tk at *
    simp -implicitDefEqProofs (disch := omega) only [go_sem, g1, hc, decide_true]
    exact hQ _ _ fun w' hs => ⟨by rw [hwin, ptV], hs.anchor (by simp)⟩
  · rw [if_neg h] at hQ
    have g1 : ¬ (n : Int) < (l.length : Int) := by omega
    simp -implicitDefEqProofs (disch := omega) only [go_sem, g1, decide_false]
    exact hQ _ _ fun w' hs => ⟨by rw [hwin, ptV], hs.anchor (by simp)⟩
end Go.Proofs.Ytjcchmlideknpaa
