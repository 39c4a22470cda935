/- points: the walks: the point of a start. -/
import Derived.Test.YtjcchmlideknpaaPtE
import Derived.Test.YtjcchmlideknpaaDetA
namespace Go.Proofs.Ytjcchmlideknpaa
set_option linter.unusedSimpArgs false
set_option linter.unusedVariables false
open H
def ptV (p : Pt.P) : Value := .agg #[.int .i64 p.bit, .int .i64 p.out, .int .i64 p.tok, .int .i64 p.frm, str p.win]
set_option maxRecDepth 20000 in
set_option maxHeartbeats 2000000 in
theorem pts_point (x : Pt.St) (t : List UInt8) (l : List Tok.Tk) (al : Option Addr) (cl g6 g5 : Nat) (hx : 0 ≤ x.2 ∧ x.2 ≤ t.length) (ht : t.length ≤ 9223372036854775807) (hll : l.length ≤ 2147483648) (hch : Tok.Chain 0 l) (hsm : Small l) (w : World)
    (hr : Rd w al l.length 3 (ofL Tok.tkC Tok.tk0 l)) (h6 : g6 < w.heap.size) (h5 : g5 < w.heap.size) (hc6 : w.cell? ⟨g6, 0, none⟩ = some (.slice al l.length cl)) (hc5 : w.cell? ⟨g5, 0, none⟩ = some (str t)) :
    Does Try.prog 37 #[.agg #[.int .i64 x.1, .int .i64 x.2], .pointer (some ⟨g6, 0, none⟩), .pointer (some ⟨g5, 0, none⟩)] w fun v w' => v = ptV (Pt.point t l x) ∧ Ext [] w w' := by
  refine does (args := [.agg #[.int .i64 x.1, .int .i64 x.2], .pointer (some ⟨g6, 0, none⟩), .pointer (some ⟨g5, 0, none⟩)]) Try.func37 rfl (by kernel_rfl) (by kernel_rfl) rfl ent_37 (Sat.start w []) ?_; intro QV hQ
  obtain ⟨xb, xo⟩ := x
  simp only [] at hx
  obtain ⟨hx0, hx1⟩ := hx
  simp -implicitDefEqProofs (disch := omega) only [go_sem]
  refine RNew_intro fun g3 hg3 => ?_
  simp -implicitDefEqProofs (disch := omega) only [go_sem]
  refine RNew_intro fun g4 hg4 => ?_
  have n34 : g3 ≠ g4 := Nat.ne_of_lt hg4.1
  have hg3' : w.heap.size ≤ g3 := hg3.1
  have hg4' : w.heap.size ≤ g4 := hg4.2.1
  have n63 : g6 ≠ g3 := by omega
  have n53 : g5 ≠ g3 := by omega
  have n64 : g6 ≠ g4 := by omega
  have n54 : g5 ≠ g4 := by omega
  simp -implicitDefEqProofs (disch := omega) only [go_sem]
  refine RDraw_seg (by kernel_rfl) (by kernel_rfl) 13 rfl ?_
  refine RS_cutR [0, 1, 2, 3, 4, 5, 6, 7, 8, 9, 10, 11] [12] (by decide +kernel) ?_
  apply RS_new [0, 1, 2, 3, 4, 5, 6, 7, 8, 9, 10] 11 5 46 #[.int .i64 0, .int .i64 0, .int .i64 0, .int .i64 0, str []] (by decide +kernel) (by kernel_rfl)
  · repeat (first | refine ToO_step (fun Q hq => by (simp -implicitDefEqProofs (disch := omega) only [go_sem, hc6, hc5, n34, n63, n53, n64, n54]; exact hq)) ?_ | refine ToO_guard (by (simp -implicitDefEqProofs only [go_sem, hc6, hc5, n34, n63, n53, n64, n54]; first | done | fail)) (fun Q hq => by (simp -implicitDefEqProofs (disch := omega) only [go_sem, hc6, hc5, n34, n63, n53, n64, n54]; exact hq)) ?_ | refine ToO_skip (.inl (by (simp -implicitDefEqProofs only [go_sem, hc6, hc5, n34, n63, n53, n64, n54]; first | done | fail))) ?_ | refine ToO_skip (.inr (by (simp -implicitDefEqProofs only [go_sem, hc6, hc5, n34, n63, n53, n64, n54]; first | done | fail))) ?_)
    first | refine ToO_step (fun Q hq => by (simp -implicitDefEqProofs (disch := omega) only [go_sem, hc6, hc5]; refine RCall_eqS (fun w1 hs => tok_ended l al cl xo (Tok.chain_mono_end hch xo) hsm hll w1 (hr.keep (hs.anchor (by simp)))) ?_; simp -implicitDefEqProofs (disch := omega) only [go_sem, hc6, hc5]; exact hq)) ?_ | refine ToO_guard (by (simp -implicitDefEqProofs only [go_sem, hc6, hc5]; first | done | fail)) (fun Q hq => by (simp -implicitDefEqProofs (disch := omega) only [go_sem, hc6, hc5]; refine RCall_eqS (fun w1 hs => tok_ended l al cl xo (Tok.chain_mono_end hch xo) hsm hll w1 (hr.keep (hs.anchor (by simp)))) ?_; simp -implicitDefEqProofs (disch := omega) only [go_sem, hc6, hc5]; exact hq)) ?_
    repeat (first | refine ToO_step (fun Q hq => by (simp -implicitDefEqProofs (disch := omega) only [go_sem, hc6, hc5, n34, n63, n53, n64, n54]; exact hq)) ?_ | refine ToO_guard (by (simp -implicitDefEqProofs only [go_sem, hc6, hc5, n34, n63, n53, n64, n54]; first | done | fail)) (fun Q hq => by (simp -implicitDefEqProofs (disch := omega) only [go_sem, hc6, hc5, n34, n63, n53, n64, n54]; exact hq)) ?_ | refine ToO_skip (.inl (by (simp -implicitDefEqProofs only [go_sem, hc6, hc5, n34, n63, n53, n64, n54]; first | done | fail))) ?_ | refine ToO_skip (.inr (by (simp -implicitDefEqProofs only [go_sem, hc6, hc5, n34, n63, n53, n64, n54]; first | done | fail))) ?_)
    exact ToO_nil rfl
  · intro gp hgp
    have n4 : g4 ≠ gp := Nat.ne_of_lt hgp.1
    have n1 : g3 ≠ gp := Nat.ne_of_lt hgp.2.1
    have hgp' : w.heap.size ≤ gp := hgp.2.2.1
    have n2 : g6 ≠ gp := by omega
    have n3 : g5 ≠ gp := by omega
    repeat (first | refine ToO_step (fun Q hq => by (simp -implicitDefEqProofs (disch := omega) only [go_sem, hc6, hc5, n34, n63, n53, n64, n54, n1, n2, n3]; exact hq)) ?_ | refine ToO_guard (by (simp -implicitDefEqProofs only [go_sem, hc6, hc5, n34, n63, n53, n64, n54, n1, n2, n3]; first | done | fail)) (fun Q hq => by (simp -implicitDefEqProofs (disch := omega) only [go_sem, hc6, hc5, n34, n63, n53, n64, n54, n1, n2, n3]; exact hq)) ?_ | refine ToO_skip (.inl (by (simp -implicitDefEqProofs only [go_sem, hc6, hc5, n34, n63, n53, n64, n54, n1, n2, n3]; first | done | fail))) ?_ | refine ToO_skip (.inr (by (simp -implicitDefEqProofs only [go_sem, hc6, hc5, n34, n63, n53, n64, n54, n1, n2, n3]; first | done | fail))) ?_)
    first | refine ToO_step (fun Q hq => by (simp -implicitDefEqProofs (disch := omega) only [go_sem, hc6, hc5]; refine RCall_eqS (fun w1 hs => tok_ended l al cl xo (Tok.chain_mono_end hch xo) hsm hll w1 (hr.keep (hs.anchor (by simp)))) ?_; simp -implicitDefEqProofs (disch := omega) only [go_sem, hc6, hc5]; exact hq)) ?_ | refine ToO_guard (by (simp -implicitDefEqProofs only [go_sem, hc6, hc5]; first | done | fail)) (fun Q hq => by (simp -implicitDefEqProofs (disch := omega) only [go_sem, hc6, hc5]; refine RCall_eqS (fun w1 hs => tok_ended l al cl xo (Tok.chain_mono_end hch xo) hsm hll w1 (hr.keep (hs.anchor (by simp)))) ?_; simp -implicitDefEqProofs (disch := omega) only [go_sem, hc6, hc5]; exact hq)) ?_
    repeat (first | refine ToO_step (fun Q hq => by (simp -implicitDefEqProofs (disch := omega) only [go_sem, hc6, hc5, n34, n63, n53, n64, n54, n1, n2, n3]; exact hq)) ?_ | refine ToO_guard (by (simp -implicitDefEqProofs only [go_sem, hc6, hc5, n34, n63, n53, n64, n54, n1, n2, n3]; first | done | fail)) (fun Q hq => by (simp -implicitDefEqProofs (disch := omega) only [go_sem, hc6, hc5, n34, n63, n53, n64, n54, n1, n2, n3]; exact hq)) ?_ | refine ToO_skip (.inl (by (simp -implicitDefEqProofs only [go_sem, hc6, hc5, n34, n63, n53, n64, n54, n1, n2, n3]; first | done | fail))) ?_ | refine ToO_skip (.inr (by (simp -implicitDefEqProofs only [go_sem, hc6, hc5, n34, n63, n53, n64, n54, n1, n2, n3]; first | done | fail))) ?_)
    exact ToO_nil rfl
  intro gp hgp
  have n4 : g4 ≠ gp := Nat.ne_of_lt hgp.1
  have n1 : g3 ≠ gp := Nat.ne_of_lt hgp.2.1
  have hgp' : w.heap.size ≤ gp := hgp.2.2.1
  have n2 : g6 ≠ gp := by omega
  have n3 : g5 ≠ gp := by omega
  refine RS_text (by kernel_rfl) ?_
  obtain ⟨n, hn⟩ : ∃ n : Nat, n = Tok.ended l xo := ⟨_, rfl⟩
  have hnl : n ≤ l.length := by rw [hn]; unfold Tok.ended; exact List.countP_le_length
  have hpt : Pt.point t l (xb, xo) = ⟨xb, xo, (n : Nat), if n < l.length then (l.getD n Tok.tk0).1 else (t.length : Int), Pt.win t xo⟩ := by rw [hn]; rfl
  rw [hpt] at hQ
  rw [← hn]
  simp -implicitDefEqProofs (disch := omega) only [go_sem, hc6, hc5]
  refine RCall_eqS (fun w1 hs => tok_nth l al cl (n : Int) hll w1 (hr.keep (hs.anchor (by simp)))) ?_
  have hnth : Tok.nth l (n : Int) = if n < l.length then (l.getD n Tok.tk0, 0) else (Tok.tk0, 21) := by
    unfold Tok.nth
    rw [if_neg (by omega)]
    by_cases h : n < l.length
    · rw [if_neg (by omega), if_pos h, Int.toNat_natCast]
    · rw [if_pos (by omega), if_neg h]
  have hhi : xo.toNat ≤ t.length := by omega
  rw [hnth]
  have hwin : List.take (xo.toNat - (max 0 (xo - 32768)).toNat) (List.drop (max 0 (xo - 32768)).toNat t) = Pt.win t xo := by
    unfold Pt.win
    rw [List.drop_take, show (max 0 (xo - 32768)).toNat = (xo - 32768).toNat by omega]
  by_cases h : n < l.length
  · rw [if_pos h] at hQ ⊢
    generalize l.getD n Tok.tk0 = tk at *
    simp -implicitDefEqProofs (disch := omega) only [go_sem]
    refine RNew_intro fun g7 hg7 => ?_
    have m7 : gp ≠ g7 := Nat.ne_of_lt hg7.1
    have m4 : g4 ≠ g7 := Nat.ne_of_lt hg7.2.1
    have m3 : g3 ≠ g7 := Nat.ne_of_lt hg7.2.2.1
    have m0 : w.heap.size ≤ g7 := hg7.2.2.2.1
    have m6 : g6 ≠ g7 := by omega
    have m5 : g5 ≠ g7 := by omega
    simp -implicitDefEqProofs (disch := omega) only [go_sem, hc6, hc5]
    exact hQ _ _ fun w' hs => ⟨by rw [hwin, ptV], hs.anchor (by simp)⟩
  · rw [if_neg h] at hQ ⊢
    simp -implicitDefEqProofs (disch := omega) only [go_sem]
    refine RNew_intro fun g7 hg7 => ?_
    have m7 : gp ≠ g7 := Nat.ne_of_lt hg7.1
    have m4 : g4 ≠ g7 := Nat.ne_of_lt hg7.2.1
    have m3 : g3 ≠ g7 := Nat.ne_of_lt hg7.2.2.1
    have m0 : w.heap.size ≤ g7 := hg7.2.2.2.1
    have m6 : g6 ≠ g7 := by omega
    have m5 : g5 ≠ g7 := by omega
    simp -implicitDefEqProofs (disch := omega) only [go_sem, hc6, hc5]
    exact hQ _ _ fun w' hs => ⟨by rw [hwin, ptV], hs.anchor (by simp)⟩
end Go.Proofs.Ytjcchmlideknpaa
