/- points' laws: the walks: what is picked is right, and apart. -/
import Derived.Test.YtjcchmlideknpaaPtR
import Derived.Test.YtjcchmlideknpaaPtS
namespace Go.Proofs.Ytjcchmlideknpaa
set_option linter.unusedSimpArgs false
set_option linter.unusedVariables false
open H
namespace Pt
theorem pick_ok {st : List St} {t : List UInt8} {l : List Tok.Tk} {sp : Int} (h : (pick st t l sp).2 = 0) : 1 ≤ sp ∧ Tok.check l 0 (t.length : Int) = 0 ∧ Orderly st (t.length : Int) ∧ (pick st t l sp).1 = (picks sp st).map (point t l) := by
  unfold pick at h ⊢
  by_cases h1 : sp < 1
  · rw [if_pos h1] at h; simp at h
  · rw [if_neg h1] at h ⊢
    by_cases h2 : Tok.check l 0 (t.length : Int) ≠ 0 ∨ ¬ Orderly st (t.length : Int)
    · rw [if_pos h2] at h; simp at h
    · rw [if_neg h2]
      exact ⟨by omega, Decidable.byContradiction fun h => h2 (.inl h), Decidable.byContradiction fun h => h2 (.inr h), rfl⟩
theorem pick_no {st : List St} {t : List UInt8} {l : List Tok.Tk} {sp : Int} (h : ¬ (pick st t l sp).2 = 0) : (pick st t l sp).1 = [] := by
  unfold pick at h ⊢
  by_cases h1 : sp < 1
  · rw [if_pos h1]
  · rw [if_neg h1] at h ⊢
    by_cases h2 : Tok.check l 0 (t.length : Int) ≠ 0 ∨ ¬ Orderly st (t.length : Int)
    · rw [if_pos h2]
    · rw [if_neg h2] at h; exact absurd rfl h
theorem pick_in {st : List St} {t : List UInt8} {l : List Tok.Tk} {sp : Int} (hin : ∀ x ∈ st, In64 x.1 ∧ In64 x.2) (hl : l.length ≤ 2147483648) : ∀ p ∈ (pick st t l sp).1, InR p := by
  intro p hp
  by_cases he : (pick st t l sp).2 = 0
  · obtain ⟨h1, h2, h3, h4⟩ := pick_ok he
    rw [h4] at hp
    have ha := right_alone (pick_right h1 h2 h3) hp
    obtain ⟨x, hx, rfl⟩ := List.mem_map.1 hp
    obtain ⟨k1, k2⟩ := hin x ((picks_sub sp st).subset hx)
    obtain ⟨b1, b2, b3, b4, b5, b6, b7⟩ := ha
    have ht : (point t l x).tok = ((Tok.ended l x.2 : Nat) : Int) := rfl
    have ho : (point t l x).out = x.2 := rfl
    have he := ended_le l x.2
    refine ⟨k1, k2, ⟨by omega, by omega⟩, ⟨by omega, ?_⟩, ?_⟩
    · have := k2.2; omega
    · simp only [maxLen]; omega
  · rw [pick_no he] at hp; simp at hp
end Pt
theorem tokT_len {odd : Bool} {t : List UInt8} {n : Int} (h : t.length ≤ 40000) (hn : n ≤ 4096 * 301) : (tokT odd t n).length ≤ 2000000 := by
  unfold tokT
  split
  · omega
  · rw [List.length_append, List.length_replicate, List.length_take]; omega
set_option maxRecDepth 20000 in
set_option maxHeartbeats 8000000 in
theorem law_apart (st : List Pt.St) (t ns : List UInt8) (ks : List Int) (odd : Bool) (spc : Int) (a1 a2 a3 : Option Addr) (c1 c2 c3 : Nat) (w : World) (hc : CaseAt w st t ns ks spc a1 a2 a3) :
    Does Try.prog 5 #[.agg #[.slice a1 st.length c1, str t, .slice a2 ns.length c2, .slice a3 ks.length c3, .bool odd, .int .i64 spc]] w fun v w' => v = .bool true ∧ Ext [] w w' := by
  refine does (args := [.agg #[.slice a1 st.length c1, str t, .slice a2 ns.length c2, .slice a3 ks.length c3, .bool odd, .int .i64 spc]]) Try.func5 rfl (by kernel_rfl) (by kernel_rfl) rfl ent_5 (Sat.start w []) ?_; intro QV hQ
  simp -implicitDefEqProofs (disch := omega) only [go_sem]
  refine RNew_intro fun g1 hg1 => ?_
  by_cases h1 : (200 : Int) < (st.length : Int)
  · simp -implicitDefEqProofs (disch := omega) only [go_sem, h1, decide_true]
    refine RCall_eq pts_known ?_
    simp -implicitDefEqProofs (disch := omega) only [go_sem]
    exact hQ _ _ fun w' hs => ⟨rfl, hs.anchor (by simp)⟩
  by_cases h2 : (40000 : Int) < (t.length : Int)
  · simp -implicitDefEqProofs (disch := omega) only [go_sem, h1, h2, decide_true]
    refine RCall_eq pts_known ?_
    simp -implicitDefEqProofs (disch := omega) only [go_sem]
    exact hQ _ _ fun w' hs => ⟨rfl, hs.anchor (by simp)⟩
  by_cases h3 : (300 : Int) < (ns.length : Int)
  · simp -implicitDefEqProofs (disch := omega) only [go_sem, h1, h2, h3, decide_true]
    refine RCall_eq pts_known ?_
    simp -implicitDefEqProofs (disch := omega) only [go_sem]
    exact hQ _ _ fun w' hs => ⟨rfl, hs.anchor (by simp)⟩
  simp -implicitDefEqProofs (disch := omega) only [go_sem, h1, h2, h3, decide_false]
  refine RCall_ground (fun w1 hs => law_tokened st t ns ks odd spc a1 a2 a3 c1 c2 c3 (by omega) (by omega) w1 (hc.keep (hs.anchor (by simp)))) ?_
  rintro w0 _ w1 hs0 ⟨al, cl, rfl, hx1, hrl⟩
  have hx01 : Ext [] w w1 := Ext.trans (hs0.anchor (by simp)) hx1
  have hs1 := hs0.ext hx1
  have hB0 : w1.cell? ⟨g1, 0, none⟩ = some (.slice a1 st.length c1) := by rw [cell_cells hs1.1 rfl, if_pos rfl]; rfl
  have hB5 : w1.cell? ⟨g1, 5, none⟩ = some (.int .i64 spc) := by rw [cell_cells hs1.1 rfl, if_pos rfl]; rfl
  have hBl : g1 < w1.heap.size := hs1.2.1 g1 rfl
  have hrs := hc.rS.keep hx01
  clear hs0 hs1 hx1
  have hch := Tok.made_chain 0 ns ks
  have hlen := Tok.made_len 0 ns ks
  have hsz := size_in ns ks (by omega)
  generalize Tok.made 0 ns ks = l at *
  have hll : l.length ≤ 2147483648 := by omega
  have htl : (tokT odd t (Tok.size l)).length ≤ 2000000 := tokT_len (by omega) hsz.2
  generalize tokT odd t (Tok.size l) = tx at *
  simp -implicitDefEqProofs (disch := omega) only [go_sem]
  refine RDraw_seg (by kernel_rfl) (by kernel_rfl) 13 rfl ?_
  refine RS_cutR [0, 1, 3, 4, 5] [2, 6, 7, 8, 9, 10, 11, 12] (by decide +kernel) ?_
  refine RS_det (by kernel_rfl) ?_
  repeat (first | refine ToO_step (fun Q hq => by (simp -implicitDefEqProofs (disch := omega) only [go_sem, hB0, hB5]; exact hq)) ?_ | refine ToO_guard (by (simp -implicitDefEqProofs only [go_sem, hB0, hB5]; first | done | fail)) (fun Q hq => by (simp -implicitDefEqProofs (disch := omega) only [go_sem, hB0, hB5]; exact hq)) ?_ | refine ToO_skip (.inl (by (simp -implicitDefEqProofs only [go_sem, hB0, hB5]; first | done | fail))) ?_ | refine ToO_skip (.inr (by (simp -implicitDefEqProofs only [go_sem, hB0, hB5]; first | done | fail))) ?_)
  refine ToO_nil ?_
  refine RS_via [7, 8, 9, 10, 11, 12] (fun f h => ∃ (w2 : World) (ag : Option Addr) (cg : Nat), Ext [] w1 w2 ∧ Rd w2 ag st.length 2 (ofL Pt.stC Pt.st0 st) ∧ f 1 = .pointer (some ⟨g1, 0, none⟩) ∧ f 35 = .slice ag st.length cg ∧ f 36 = str tx ∧ f 37 = .slice al l.length cl ∧ f 39 = .int .i64 spc ∧ h = [.anchor w2 []]) (fun K' hI => ?_) ?_
  · refine RS_first [2, 6] (by kernel_rfl) ⟨?_, ?_, trivial⟩
    · simp -implicitDefEqProofs (disch := omega) only [go_sem, hB0, hB5]
      refine RCall_ground (fun w2 hs => law_given st a1 c1 (by omega) w2 (hrs.keep (hs.anchor (by simp)))) ?_
      rintro wa _ w2 hsa ⟨ag, cg, rfl, hx2, hrg⟩
      have hx12 : Ext [] w1 w2 := Ext.trans (hsa.anchor (by simp)) hx2
      have hB5' := keep_at hx12 hB5
      have hBl' := Nat.lt_of_lt_of_le hBl hx12.size
      simp -implicitDefEqProofs (disch := omega) only [go_sem]
      refine RS_first (L := [6, 7, 8, 9, 10, 11, 12]) [6] (by kernel_rfl) ⟨?_, trivial⟩
      simp -implicitDefEqProofs (disch := omega) only [go_sem, hB5']
      exact hI _ _ ⟨w2, ag, cg, hx12, hrg, by (first | (simp -implicitDefEqProofs (disch := omega) only [go_sem]; done) | (simp -implicitDefEqProofs (disch := omega) only [go_sem]; rfl)), by (first | (simp -implicitDefEqProofs (disch := omega) only [go_sem]; done) | (simp -implicitDefEqProofs (disch := omega) only [go_sem]; rfl)), by (first | (simp -implicitDefEqProofs (disch := omega) only [go_sem]; done) | (simp -implicitDefEqProofs (disch := omega) only [go_sem]; rfl)), by (first | (simp -implicitDefEqProofs (disch := omega) only [go_sem]; done) | (simp -implicitDefEqProofs (disch := omega) only [go_sem]; rfl)), by (first | (simp -implicitDefEqProofs (disch := omega) only [go_sem]; done) | (simp -implicitDefEqProofs (disch := omega) only [go_sem]; rfl)), rfl⟩
    · simp -implicitDefEqProofs (disch := omega) only [go_sem, hB0, hB5]
      refine RS_first (L := [2, 7, 8, 9, 10, 11, 12]) [2] (by kernel_rfl) ⟨?_, trivial⟩
      simp -implicitDefEqProofs (disch := omega) only [go_sem]
      refine RCall_ground (fun w2 hs => law_given st a1 c1 (by omega) w2 (hrs.keep (hs.anchor (by simp)))) ?_
      rintro wa _ w2 hsa ⟨ag, cg, rfl, hx2, hrg⟩
      have hx12 : Ext [] w1 w2 := Ext.trans (hsa.anchor (by simp)) hx2
      simp -implicitDefEqProofs (disch := omega) only [go_sem]
      exact hI _ _ ⟨w2, ag, cg, hx12, hrg, by (first | (simp -implicitDefEqProofs (disch := omega) only [go_sem]; done) | (simp -implicitDefEqProofs (disch := omega) only [go_sem]; rfl)), by (first | (simp -implicitDefEqProofs (disch := omega) only [go_sem]; done) | (simp -implicitDefEqProofs (disch := omega) only [go_sem]; rfl)), by (first | (simp -implicitDefEqProofs (disch := omega) only [go_sem]; done) | (simp -implicitDefEqProofs (disch := omega) only [go_sem]; rfl)), by (first | (simp -implicitDefEqProofs (disch := omega) only [go_sem]; done) | (simp -implicitDefEqProofs (disch := omega) only [go_sem]; rfl)), by (first | (simp -implicitDefEqProofs (disch := omega) only [go_sem]; done) | (simp -implicitDefEqProofs (disch := omega) only [go_sem]; rfl)), rfl⟩
  rintro f h ⟨w2, ag, cg, hx12, hrg, e1, e35, e36, e37, e39, rfl⟩
  refine RS_first [7] (by kernel_rfl) ⟨?_, trivial⟩
  simp -implicitDefEqProofs (disch := omega) only [go_sem, e35, e36, e37, e39]
  refine RCall_ground (fun w3 hs => pts_pick st tx l spc ag al cg cl (by omega) (by omega) hll w3 (hrg.keep (hs.anchor (by simp))) (hrl.keep (Ext.trans hx12 (hs.anchor (by simp))))) ?_
  rintro wb _ w3 hsb ⟨rs, hs3, v0, rfl, hn⟩
  obtain ⟨ap, cp, rfl, hxb3, hrp⟩ := new_still hs3 hn
  have hx13 : Ext [] w1 w3 := Ext.trans hx12 (Ext.trans (hsb.anchor (by simp)) hxb3)
  have hx03 : Ext [] w w3 := Ext.trans hx01 hx13
  have hB0' := keep_at hx13 hB0
  have hB5' := keep_at hx13 hB5
  have hBl' := Nat.lt_of_lt_of_le hBl hx13.size
  have hrs' := hrs.keep hx13
  clear hsb hs3 hn hxb3 hrs hrl hrg hB0 hB5 hBl hx12 hx13 hx01 e35 e36 e37 e39
  have hpo := @Pt.pick_ok st tx l spc
  have hpn := @Pt.pick_no st tx l spc
  have hpi := @Pt.pick_in st tx l spc hc.inS hll
  generalize Pt.pick st tx l spc = pk at *
  obtain ⟨p, e⟩ := pk
  simp only [] at hpo hpn hpi hrp ⊢
  simp -implicitDefEqProofs (disch := omega) only [go_sem]
  refine RS_det (L := [8, 9, 10, 11, 12]) (by kernel_rfl) ?_
  repeat (first | refine ToO_step (fun Q hq => by (simp -implicitDefEqProofs (disch := omega) only [go_sem]; exact hq)) ?_ | refine ToO_guard (by (simp -implicitDefEqProofs only [go_sem]; first | done | fail)) (fun Q hq => by (simp -implicitDefEqProofs (disch := omega) only [go_sem]; exact hq)) ?_ | refine ToO_skip (.inl (by (simp -implicitDefEqProofs only [go_sem]; first | done | fail))) ?_ | refine ToO_skip (.inr (by (simp -implicitDefEqProofs only [go_sem]; first | done | fail))) ?_)
  refine ToO_nil ?_
  by_cases he : e = 0
  rotate_left
  · obtain rfl := hpn he
    have i0 : decide (((0 : Nat) : Int) = 0) = true := rfl
    simp -implicitDefEqProofs (disch := omega) only [go_sem, e1, he, decide_false, i0, List.length_nil]
    refine RCall_eq pts_known ?_
    simp -implicitDefEqProofs (disch := omega) only [go_sem]
    exact hQ _ _ fun w' hs => ⟨rfl, Ext.trans hx03 (hs.anchor (by simp))⟩
  obtain ⟨hsp, hck, hor, hpe⟩ := hpo he
  have hR : Pt.Right p := by rw [hpe]; exact Pt.pick_right hsp hck hor
  have hpl : p.length ≤ 200 := by
    rw [hpe, List.length_map]
    have := (Pt.picks_sub spc st).length_le
    omega
  have hp0 := hR.1
  simp -implicitDefEqProofs (disch := omega) only [go_sem, e1, he, decide_true]
  refine RCall_eqS (fun w4 hs => pts_right p ap cp (by omega) hpi w4 (hrp.keep (hs.anchor (by simp)))) ?_
  simp -implicitDefEqProofs (disch := omega) only [go_sem, e1, hR, decide_true]
  refine RLoop_intro (fun f h => ∃ (i : Nat), 1 ≤ i ∧ i ≤ p.length ∧ f 1 = .pointer (some ⟨g1, 0, none⟩) ∧ f 5 = .slice ap p.length cp ∧ f 7 = .int .i64 (i : Int) ∧ h = [.anchor w3 []]) (fun f _ => (p.length - ival (f 7)).toNat) ?_ ?_
  · exact ⟨1, by omega, by omega, by (first | (simp -implicitDefEqProofs (disch := omega) only [go_sem, e1]; done) | (simp -implicitDefEqProofs (disch := omega) only [go_sem, e1]; rfl)), by (first | (simp -implicitDefEqProofs (disch := omega) only [go_sem]; done) | (simp -implicitDefEqProofs (disch := omega) only [go_sem]; rfl)), by (first | (simp -implicitDefEqProofs (disch := omega) only [go_sem]; done) | (simp -implicitDefEqProofs (disch := omega) only [go_sem]; rfl)), rfl⟩
  clear e1
  rintro f h ⟨i, hi1, hi, e1, e5, e7, rfl⟩ Q' hQ'
  by_cases hil : i < p.length
  · have g1' : (i : Int) < (p.length : Int) := by omega
    obtain ⟨k, rfl⟩ : ∃ k, i = k + 1 := ⟨i - 1, by omega⟩
    have hk1 : ((k + 1 : Nat) : Int) - 1 = (k : Int) := by omega
    have g2' : (k : Int) < (p.length : Int) := by omega
    have hmi : ival (f 7) = ((k + 1 : Nat) : Int) := by rw [e7]; rfl
    obtain ⟨b, o, rfl, hb, _, hc1⟩ := pt_at hrp (k + 1) hil
    obtain ⟨b', o', hbo, _, _, hc2⟩ := pt_at hrp k (by omega)
    injection hbo with hbo
    injection hbo with hb1 hb2
    subst hb1 hb2
    have hgap : (p.getD (k + 1) Pt.p0).out - (p.getD k Pt.p0).out ≥ spc := by
      rw [hpe, List.length_map] at hil
      rw [hpe, Pt.map_getD (Pt.point tx l) Pt.st0 Pt.p0 hil, Pt.map_getD (Pt.point tx l) Pt.st0 Pt.p0 (by omega)]
      exact Pt.picks_spaced spc st k hil
    have hin1 := (in_getD hpi hil).2.1
    have hin2 := (in_getD hpi (by omega : k < p.length)).2.1
    have hnn := (hR.2 k (by omega)).1.2.1
    have hnn2 := (hR.2 (k + 1) hil).1.2.1
    generalize (p.getD (k + 1) Pt.p0).out = x at *
    generalize (p.getD k Pt.p0).out = y at *
    obtain ⟨hx1, hx2⟩ := hin1
    obtain ⟨hy1, hy2⟩ := hin2
    have g3' : ¬ x - y < spc := by omega
    simp -implicitDefEqProofs (disch := omega) only [go_sem, e1, e5, e7, g1', decide_true]
    refine RDraw_seg (by kernel_rfl) (by kernel_rfl) 15 rfl ?_
    refine RS_det (by kernel_rfl) ?_
    repeat (first | refine ToO_step (fun Q hq => by (simp -implicitDefEqProofs (disch := omega) only [go_sem, e1, e5, e7, g1', g2', hk1, hc1, hc2, hB5', g3', decide_false]; exact hq)) ?_ | refine ToO_guard (by (simp -implicitDefEqProofs only [go_sem, e1, e5, e7, g1', g2', hk1, hc1, hc2, hB5', g3', decide_false]; first | done | fail)) (fun Q hq => by (simp -implicitDefEqProofs (disch := omega) only [go_sem, e1, e5, e7, g1', g2', hk1, hc1, hc2, hB5', g3', decide_false]; exact hq)) ?_ | refine ToO_skip (.inl (by (simp -implicitDefEqProofs only [go_sem, e1, e5, e7, g1', g2', hk1, hc1, hc2, hB5', g3', decide_false]; first | done | fail))) ?_ | refine ToO_skip (.inr (by (simp -implicitDefEqProofs only [go_sem, e1, e5, e7, g1', g2', hk1, hc1, hc2, hB5', g3', decide_false]; first | done | fail))) ?_)
    refine ToO_nil ?_
    simp -implicitDefEqProofs (disch := omega) only [go_sem, e1, e5, e7]
    refine hQ' _ _ _ (fun _ hs => hs) ⟨k + 2, by omega, by omega, ?_, ?_, ?_, rfl⟩ ?_
    · (first | (simp -implicitDefEqProofs (disch := omega) only [go_sem, e1, e5, e7]; done) | (simp -implicitDefEqProofs (disch := omega) only [go_sem, e1, e5, e7]; rfl))
    · (first | (simp -implicitDefEqProofs (disch := omega) only [go_sem, e1, e5, e7]; done) | (simp -implicitDefEqProofs (disch := omega) only [go_sem, e1, e5, e7]; rfl))
    · (first | (simp -implicitDefEqProofs (disch := omega) only [go_sem, e1, e5, e7]; done) | (simp -implicitDefEqProofs (disch := omega) only [go_sem, e1, e5, e7]; rfl))
    · simp -implicitDefEqProofs (disch := omega) only [go_sem, e1, e5, e7, hmi]; omega
  have g1' : ¬ (i : Int) < (p.length : Int) := by omega
  simp -implicitDefEqProofs (disch := omega) only [go_sem, e1, e5, e7, g1', decide_false]
  refine RLoop_intro (fun f h => ∃ (i : Nat), i ≤ st.length ∧ f 1 = .pointer (some ⟨g1, 0, none⟩) ∧ f 5 = .slice ap p.length cp ∧ f 8 = .int .i64 (i : Int) ∧ h = [.anchor w3 []]) (fun f _ => (st.length - ival (f 8)).toNat) ?_ ?_
  · exact ⟨0, by omega, by (first | (simp -implicitDefEqProofs (disch := omega) only [go_sem, e1, e5, e7]; done) | (simp -implicitDefEqProofs (disch := omega) only [go_sem, e1, e5, e7]; rfl)), by (first | (simp -implicitDefEqProofs (disch := omega) only [go_sem, e1, e5, e7]; done) | (simp -implicitDefEqProofs (disch := omega) only [go_sem, e1, e5, e7]; rfl)), by (first | (simp -implicitDefEqProofs (disch := omega) only [go_sem, e1, e5, e7]; done) | (simp -implicitDefEqProofs (disch := omega) only [go_sem, e1, e5, e7]; rfl)), rfl⟩
  clear e1 e5 e7 hQ' g1' hi1 hi hil
  rintro f h ⟨i, hi, e1, e5, e8, rfl⟩ Q' hQ'
  have hmi : ival (f 8) = (i : Int) := by rw [e8]; rfl
  by_cases hil : i < st.length
  · have g1' : (i : Int) < (st.length : Int) := by omega
    obtain ⟨b, o, rfl, hb, _, hc1⟩ := rstart_at hrs' i hil
    have hxm := Pt.getD_mem Pt.st0 hil
    have hxr := Pt.ord_range hor hxm
    obtain ⟨y, hy, hy1, hy2⟩ := Pt.picks_near spc (by omega) st (Pt.ord_pair hor) _ hxm
    generalize st.getD i Pt.st0 = x at *
    obtain ⟨k, hk, hkl, hk1, hk2⟩ := Pt.near_of hR (a := x.2) (y := Pt.point tx l y) (by rw [hpe]; exact List.mem_map_of_mem hy) hy1
    have hyo : (Pt.point tx l y).out = y.2 := rfl
    rw [hyo] at hk1
    have hnn := (hR.2 k hkl).1.2.1
    simp -implicitDefEqProofs (disch := omega) only [go_sem, e1, e5, e8, g1', hB0', hc1, decide_true]
    refine RCall_eqS (fun w4 hs => pts_near p ap cp x.2 (by omega) (right_sorted hR) w4 (hrp.keep (hs.anchor (by simp)))) ?_
    rw [hk]
    obtain ⟨b2, o2, rfl, hb2, _, hc2⟩ := pt_at hrp k hkl
    generalize (p.getD k Pt.p0).out = z at *
    have g2' : ¬ (k : Int) < 0 := by omega
    have g3' : ¬ (p.length : Int) ≤ (k : Int) := by omega
    have g3'' : (k : Int) < (p.length : Int) := by omega
    have g4' : ¬ spc ≤ x.2 - z := by omega
    simp -implicitDefEqProofs (disch := omega) only [go_sem, e1, e5, e8]
    refine RDraw_seg (by kernel_rfl) (by kernel_rfl) 25 rfl ?_
    refine RS_det (by kernel_rfl) ?_
    repeat (first | refine ToO_step (fun Q hq => by (simp -implicitDefEqProofs (disch := omega) only [go_sem, e1, e5, e8, g2', g3', g3'', g4', g1', hB0', hB5', hc1, hc2, decide_false]; exact hq)) ?_ | refine ToO_guard (by (simp -implicitDefEqProofs only [go_sem, e1, e5, e8, g2', g3', g3'', g4', g1', hB0', hB5', hc1, hc2, decide_false]; first | done | fail)) (fun Q hq => by (simp -implicitDefEqProofs (disch := omega) only [go_sem, e1, e5, e8, g2', g3', g3'', g4', g1', hB0', hB5', hc1, hc2, decide_false]; exact hq)) ?_ | refine ToO_skip (.inl (by (simp -implicitDefEqProofs only [go_sem, e1, e5, e8, g2', g3', g3'', g4', g1', hB0', hB5', hc1, hc2, decide_false]; first | done | fail))) ?_ | refine ToO_skip (.inr (by (simp -implicitDefEqProofs only [go_sem, e1, e5, e8, g2', g3', g3'', g4', g1', hB0', hB5', hc1, hc2, decide_false]; first | done | fail))) ?_)
    refine ToO_nil ?_
    simp -implicitDefEqProofs (disch := omega) only [go_sem, e1, e5, e8]
    refine hQ' _ _ _ (fun _ hs => hs) ⟨i + 1, by omega, ?_, ?_, ?_, rfl⟩ ?_
    · (first | (simp -implicitDefEqProofs (disch := omega) only [go_sem, e1, e5, e8]; done) | (simp -implicitDefEqProofs (disch := omega) only [go_sem, e1, e5, e8]; rfl))
    · (first | (simp -implicitDefEqProofs (disch := omega) only [go_sem, e1, e5, e8]; done) | (simp -implicitDefEqProofs (disch := omega) only [go_sem, e1, e5, e8]; rfl))
    · (first | (simp -implicitDefEqProofs (disch := omega) only [go_sem, e1, e5, e8]; done) | (simp -implicitDefEqProofs (disch := omega) only [go_sem, e1, e5, e8]; rfl))
    · simp -implicitDefEqProofs (disch := omega) only [go_sem, e1, e5, e8, hmi]; omega
  have g1' : ¬ (i : Int) < (st.length : Int) := by omega
  simp -implicitDefEqProofs (disch := omega) only [go_sem, e1, e5, e8, g1', hB0', decide_false]
  refine RCall_eq pts_known ?_
  simp -implicitDefEqProofs (disch := omega) only [go_sem]
  exact hQ _ _ fun w' hs => ⟨rfl, Ext.trans hx03 (hs.anchor (by simp))⟩
end Go.Proofs.Ytjcchmlideknpaa
