/- points' laws: the walk: what is picked is as the document says. -/
import Derived.Test.YtjcchmlideknpaaPtW
namespace Go.Proofs.Ytjcchmlideknpaa
set_option linter.unusedSimpArgs false
set_option linter.unusedVariables false
open H
set_option maxRecDepth 20000 in
set_option maxHeartbeats 8000000 in
theorem law_ppick (st : List Pt.St) (t ns : List UInt8) (ks : List Int) (odd : Bool) (spc : Int) (a1 a2 a3 : Option Addr) (c1 c2 c3 : Nat) (w : World) (hc : CaseAt w st t ns ks spc a1 a2 a3) :
    Does Try.prog 4 #[.agg #[.slice a1 st.length c1, str t, .slice a2 ns.length c2, .slice a3 ks.length c3, .bool odd, .int .i64 spc]] w fun v w' => v = .bool true ∧ Ext [] w w' := by
  refine does (args := [.agg #[.slice a1 st.length c1, str t, .slice a2 ns.length c2, .slice a3 ks.length c3, .bool odd, .int .i64 spc]]) Try.func4 rfl (by kernel_rfl) (by kernel_rfl) rfl ent_4 (Sat.start w []) ?_; intro QV hQ
  simp -implicitDefEqProofs (disch := omega) only [go_sem]
  refine RNew_intro fun g1 hg1 => ?_
  by_cases h1 : (200 : Int) < (st.length : Int)
  · simp -implicitDefEqProofs (disch := omega) only [go_sem, h1, decide_true]
    refine RCall_eq pts_known ?_
    simp -implicitDefEqProofs (disch := omega) only [go_sem]
    exact hQ _ _ fun w' hs => ⟨rfl, hs.anchor (by simp)⟩
  by_cases h2 : (40000 : Int) < (t.length : Int)
  · simp -implicitDefEqProofs (disch := omega) only [go_sem, h1, h2, decide_true]
    refine RCall_eq pts_known ?_
    simp -implicitDefEqProofs (disch := omega) only [go_sem]
    exact hQ _ _ fun w' hs => ⟨rfl, hs.anchor (by simp)⟩
  by_cases h3 : (300 : Int) < (ns.length : Int)
  · simp -implicitDefEqProofs (disch := omega) only [go_sem, h1, h2, h3, decide_true]
    refine RCall_eq pts_known ?_
    simp -implicitDefEqProofs (disch := omega) only [go_sem]
    exact hQ _ _ fun w' hs => ⟨rfl, hs.anchor (by simp)⟩
  simp -implicitDefEqProofs (disch := omega) only [go_sem, h1, h2, h3, decide_false]
  refine RCall_ground (fun w1 hs => law_tokened st t ns ks odd spc a1 a2 a3 c1 c2 c3 (by omega) (by omega) w1 (hc.keep (hs.anchor (by simp)))) ?_
  rintro w0 _ w1 hs0 ⟨al, cl, rfl, hx1, hrl⟩
  have hx01 : Ext [] w w1 := Ext.trans (hs0.anchor (by simp)) hx1
  have hs1 := hs0.ext hx1
  have hB0 : w1.cell? ⟨g1, 0, none⟩ = some (.slice a1 st.length c1) := by rw [cell_cells hs1.1 rfl, if_pos rfl]; rfl
  have hB5 : w1.cell? ⟨g1, 5, none⟩ = some (.int .i64 spc) := by rw [cell_cells hs1.1 rfl, if_pos rfl]; rfl
  have hBl : g1 < w1.heap.size := hs1.2.1 g1 rfl
  have hrs := hc.rS.keep hx01
  clear hs0 hs1 hx1
  have hch := Tok.made_chain 0 ns ks
  have hlen := Tok.made_len 0 ns ks
  have hsz := size_in ns ks (by omega)
  generalize Tok.made 0 ns ks = l at *
  have hll : l.length ≤ 2147483648 := by omega
  have htl : (tokT odd t (Tok.size l)).length ≤ 2000000 := tokT_len (by omega) hsz.2
  generalize tokT odd t (Tok.size l) = tx at *
  simp -implicitDefEqProofs (disch := omega) only [go_sem]
  refine RDraw_seg (by kernel_rfl) (by kernel_rfl) 13 rfl ?_
  refine RS_cutR [0, 1, 3, 4, 5] [2, 6, 7, 8, 9, 10, 11, 12] (by decide +kernel) ?_
  refine RS_det (by kernel_rfl) ?_
  repeat (first | refine ToO_step (fun Q hq => by (simp -implicitDefEqProofs (disch := omega) only [go_sem, hB0, hB5]; exact hq)) ?_ | refine ToO_guard (by (simp -implicitDefEqProofs only [go_sem, hB0, hB5]; first | done | fail)) (fun Q hq => by (simp -implicitDefEqProofs (disch := omega) only [go_sem, hB0, hB5]; exact hq)) ?_ | refine ToO_skip (.inl (by (simp -implicitDefEqProofs only [go_sem, hB0, hB5]; first | done | fail))) ?_ | refine ToO_skip (.inr (by (simp -implicitDefEqProofs only [go_sem, hB0, hB5]; first | done | fail))) ?_)
  refine ToO_nil ?_
  refine RS_via [7, 8, 9, 10, 11, 12] (fun f h => ∃ (w2 : World) (ag : Option Addr) (cg : Nat), Ext [] w1 w2 ∧ Rd w2 ag st.length 2 (ofL Pt.stC Pt.st0 st) ∧ f 1 = .pointer (some ⟨g1, 0, none⟩) ∧ f 3 = .slice al l.length cl ∧ f 4 = str tx ∧ f 34 = .slice ag st.length cg ∧ f 35 = str tx ∧ f 36 = .slice al l.length cl ∧ f 38 = .int .i64 spc ∧ h = [.anchor w2 []]) (fun K' hI => ?_) ?_
  · refine RS_first [2, 6] (by kernel_rfl) ⟨?_, ?_, trivial⟩
    · simp -implicitDefEqProofs (disch := omega) only [go_sem, hB0, hB5]
      refine RCall_ground (fun w2 hs => law_given st a1 c1 (by omega) w2 (hrs.keep (hs.anchor (by simp)))) ?_
      rintro wa _ w2 hsa ⟨ag, cg, rfl, hx2, hrg⟩
      have hx12 : Ext [] w1 w2 := Ext.trans (hsa.anchor (by simp)) hx2
      have hB5' := keep_at hx12 hB5
      have hBl' := Nat.lt_of_lt_of_le hBl hx12.size
      simp -implicitDefEqProofs (disch := omega) only [go_sem]
      refine RS_first (L := [6, 7, 8, 9, 10, 11, 12]) [6] (by kernel_rfl) ⟨?_, trivial⟩
      simp -implicitDefEqProofs (disch := omega) only [go_sem, hB5']
      exact hI _ _ ⟨w2, ag, cg, hx12, hrg, by (first | (simp -implicitDefEqProofs (disch := omega) only [go_sem]; done) | (simp -implicitDefEqProofs (disch := omega) only [go_sem]; rfl)), by (first | (simp -implicitDefEqProofs (disch := omega) only [go_sem]; done) | (simp -implicitDefEqProofs (disch := omega) only [go_sem]; rfl)), by (first | (simp -implicitDefEqProofs (disch := omega) only [go_sem]; done) | (simp -implicitDefEqProofs (disch := omega) only [go_sem]; rfl)), by (first | (simp -implicitDefEqProofs (disch := omega) only [go_sem]; done) | (simp -implicitDefEqProofs (disch := omega) only [go_sem]; rfl)), by (first | (simp -implicitDefEqProofs (disch := omega) only [go_sem]; done) | (simp -implicitDefEqProofs (disch := omega) only [go_sem]; rfl)), by (first | (simp -implicitDefEqProofs (disch := omega) only [go_sem]; done) | (simp -implicitDefEqProofs (disch := omega) only [go_sem]; rfl)), by (first | (simp -implicitDefEqProofs (disch := omega) only [go_sem]; done) | (simp -implicitDefEqProofs (disch := omega) only [go_sem]; rfl)), rfl⟩
    · simp -implicitDefEqProofs (disch := omega) only [go_sem, hB0, hB5]
      refine RS_first (L := [2, 7, 8, 9, 10, 11, 12]) [2] (by kernel_rfl) ⟨?_, trivial⟩
      simp -implicitDefEqProofs (disch := omega) only [go_sem]
      refine RCall_ground (fun w2 hs => law_given st a1 c1 (by omega) w2 (hrs.keep (hs.anchor (by simp)))) ?_
      rintro wa _ w2 hsa ⟨ag, cg, rfl, hx2, hrg⟩
      have hx12 : Ext [] w1 w2 := Ext.trans (hsa.anchor (by simp)) hx2
      simp -implicitDefEqProofs (disch := omega) only [go_sem]
      exact hI _ _ ⟨w2, ag, cg, hx12, hrg, by (first | (simp -implicitDefEqProofs (disch := omega) only [go_sem]; done) | (simp -implicitDefEqProofs (disch := omega) only [go_sem]; rfl)), by (first | (simp -implicitDefEqProofs (disch := omega) only [go_sem]; done) | (simp -implicitDefEqProofs (disch := omega) only [go_sem]; rfl)), by (first | (simp -implicitDefEqProofs (disch := omega) only [go_sem]; done) | (simp -implicitDefEqProofs (disch := omega) only [go_sem]; rfl)), by (first | (simp -implicitDefEqProofs (disch := omega) only [go_sem]; done) | (simp -implicitDefEqProofs (disch := omega) only [go_sem]; rfl)), by (first | (simp -implicitDefEqProofs (disch := omega) only [go_sem]; done) | (simp -implicitDefEqProofs (disch := omega) only [go_sem]; rfl)), by (first | (simp -implicitDefEqProofs (disch := omega) only [go_sem]; done) | (simp -implicitDefEqProofs (disch := omega) only [go_sem]; rfl)), by (first | (simp -implicitDefEqProofs (disch := omega) only [go_sem]; done) | (simp -implicitDefEqProofs (disch := omega) only [go_sem]; rfl)), rfl⟩
  rintro f h ⟨w2, ag, cg, hx12, hrg, e1, e3, e4, e35, e36, e37, e39, rfl⟩
  refine RS_first [7] (by kernel_rfl) ⟨?_, trivial⟩
  simp -implicitDefEqProofs (disch := omega) only [go_sem, e35, e36, e37, e39]
  refine RCall_ground (fun w3 hs => pts_pick st tx l spc ag al cg cl (by omega) (by omega) hll w3 (hrg.keep (hs.anchor (by simp))) (hrl.keep (Ext.trans hx12 (hs.anchor (by simp))))) ?_
  rintro wb _ w3 hsb ⟨rs, hs3, v0, rfl, hn⟩
  obtain ⟨ap, cp, rfl, hxb3, hrp⟩ := new_still hs3 hn
  have hx13 : Ext [] w1 w3 := Ext.trans hx12 (Ext.trans (hsb.anchor (by simp)) hxb3)
  have hx03 : Ext [] w w3 := Ext.trans hx01 hx13
  have hB0' := keep_at hx13 hB0
  have hB5' := keep_at hx13 hB5
  have hBl' := Nat.lt_of_lt_of_le hBl hx13.size
  have hrs' := hrs.keep hx13
  have hrl' := hrl.keep hx13
  clear hsb hs3 hn hxb3 hrs hrl hrg hB0 hB5 hBl hx12 hx13 hx01 e35 e36 e37 e39
  have hpl : (Pt.pick st tx l spc).1.length ≤ 2147483648 := by
    by_cases he : (Pt.pick st tx l spc).2 = 0
    · rw [(Pt.pick_ok he).2.2.2, List.length_map]
      have := (Pt.picks_sub spc st).length_le
      omega
    · rw [Pt.pick_no he]; simp
  simp -implicitDefEqProofs (disch := omega) only [go_sem]
  refine RS_det (L := [8, 9, 10, 11, 12]) (by kernel_rfl) ?_
  repeat (first | refine ToO_step (fun Q hq => by (simp -implicitDefEqProofs (disch := omega) only [go_sem]; exact hq)) ?_ | refine ToO_guard (by (simp -implicitDefEqProofs only [go_sem]; first | done | fail)) (fun Q hq => by (simp -implicitDefEqProofs (disch := omega) only [go_sem]; exact hq)) ?_ | refine ToO_skip (.inl (by (simp -implicitDefEqProofs only [go_sem]; first | done | fail))) ?_ | refine ToO_skip (.inr (by (simp -implicitDefEqProofs only [go_sem]; first | done | fail))) ?_)
  refine ToO_nil ?_
  simp -implicitDefEqProofs (disch := omega) only [go_sem, e1, e3, e4, hB0', hB5']
  refine RCall_ground (fun w4 hs => rpts_pick st tx l spc a1 al c1 cl (by omega) (by omega) hll w4 (hrs'.keep (hs.anchor (by simp))) (hrl'.keep (hs.anchor (by simp)))) ?_
  rintro wc _ w4 hsc ⟨aq, cq, rfl, hx4, hrq⟩
  have hx34 : Ext [] w3 w4 := Ext.trans (hsc.anchor (by simp)) hx4
  have hrp' := hrp.keep hx34
  have hx04 := Ext.trans hx03 hx34
  clear hsc
  generalize Pt.pick st tx l spc = pk at *
  obtain ⟨p, e⟩ := pk
  simp only [] at hpl hrp' hrq ⊢
  simp -implicitDefEqProofs (disch := omega) only [go_sem, e1]
  refine RCall_eqS (u := .bool true) (fun w6 hs => ?_) ?_
  · have := pts_same p p ap aq cp cq hpl hpl w6 (hrp'.keep (hs.anchor (by simp))) (hrq.keep (hs.anchor (by simp)))
    rwa [decide_eq_true rfl] at this
  simp -implicitDefEqProofs (disch := omega) only [go_sem, decide_true]
  refine RCall_eq pts_known ?_
  simp -implicitDefEqProofs (disch := omega) only [go_sem]
  exact hQ _ _ fun w' hs => ⟨rfl, Ext.trans hx04 (hs.anchor (by simp))⟩
end Go.Proofs.Ytjcchmlideknpaa
