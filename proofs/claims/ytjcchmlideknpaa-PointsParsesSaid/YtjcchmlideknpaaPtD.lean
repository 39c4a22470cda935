/- points: the walks: the bytes of points. -/
import Derived.Test.YtjcchmlideknpaaPtC
namespace Go.Proofs.Ytjcchmlideknpaa
set_option linter.unusedSimpArgs false
set_option linter.unusedVariables false
open H
theorem map_head {n : Nat} : ([82, 83, 84, 80] : List UInt8) ++ Pt.putS [(n : Int)] = Pt.head n := rfl
set_option maxRecDepth 20000 in
set_option maxHeartbeats 2000000 in
theorem pts_build (l : List Pt.P) (a : Option Addr) (c : Nat) (hll : l.length ≤ 1000000) (hin : ∀ p ∈ l, Pt.InR p) (w : World) (hr : Rd w a l.length 5 (ofL Pt.ptC Pt.p0 l)) :
    Does Try.prog 10 #[.slice a l.length c] w fun v w' => v = .tuple #[str (Pt.build l).1, .int .i64 (Pt.build l).2] ∧ Ext [] w w' := by
  refine does (args := [.slice a l.length c]) Try.func10 rfl (by kernel_rfl) (by kernel_rfl) rfl ent_10 (Sat.start w []) ?_; intro QV hQ
  simp -implicitDefEqProofs (disch := omega) only [go_sem]
  refine RCall_eqS (fun w1 hs => pts_right l a c (by omega) hin w1 (hr.keep (hs.anchor (by simp)))) ?_
  by_cases hR : Pt.Right l
  rotate_left
  · have hb : Pt.build l = ([], 4) := by unfold Pt.build; rw [if_neg hR]
    rw [hb] at hQ
    simp -implicitDefEqProofs (disch := omega) only [go_sem, hR, decide_false]
    exact hQ _ _ fun w' hs => ⟨rfl, hs.anchor (by simp)⟩
  have hb : Pt.build l = (Pt.bytes l ++ Pt.sumB (Pt.bytes l), 0) := by unfold Pt.build; rw [if_pos hR]
  rw [hb] at hQ
  have hbl := Pt.bytes_len hin hR hll
  have hhl := Pt.head_len l.length (by omega)
  have hpl := Pt.putS_len [(l.length : Int)] (by simp; omega)
  simp only [List.length_cons, List.length_nil] at hpl
  simp -implicitDefEqProofs (disch := omega) only [go_sem, hR, decide_true]
  refine RRun_buildz [.int .i64 (l.length : Int)] (iv [(l.length : Int)]) ints_sl rfl rfl (by decide) (fun v hv => by
    simp only [List.mem_cons, List.not_mem_nil, or_false] at hv
    subst hv; rfl) rfl (by decide) fun gw hgw => ?_
  simp -implicitDefEqProofs (disch := omega) only [go_sem]
  refine RCall_eqS (fun w1 hs => pts_put [(l.length : Int)] (some ⟨gw, 0, none⟩) 1 (by simp) (by simp [Pt.In64]; omega) w1 (iv_rd (t := 3) hs List.mem_cons_self)) ?_
  have b0 : strV .add ⟨#[82, 83, 84, 80]⟩ ⟨(Pt.putS [(l.length : Int)]).toArray⟩ = some (str (Pt.head l.length)) := strV_add [82, 83, 84, 80] _ (by simp only [List.length_cons, List.length_nil]; omega)
  simp -implicitDefEqProofs (disch := omega) only [go_sem, b0]
  refine RRun_bytes Try.underlying9 bytes_t fun g sp hg => ?_
  simp -implicitDefEqProofs (disch := omega) only [go_sem]
  refine RLoop_from (fun f h => ∃ (i g n c' : Nat) (L : List UInt8) (sp : List Value), i ≤ l.length ∧ w.heap.size ≤ g ∧ L = Pt.head l.length ++ (l.take i).flatMap Pt.ptB ∧ n = L.length ∧ c' = L.length + sp.length ∧ f 0 = .slice a l.length c ∧ f 4 = .slice (some ⟨g, 0, none⟩) n c' ∧ f 16 = .slice a l.length c ∧ f 17 = .int .i64 (l.length : Int) ∧ f 18 = .int .i64 (i : Int) ∧
    h = [.cells g 5 (L.map byte ++ sp).toArray, .anchor w []]) (fun f _ => (l.length - ival (f 18)).toNat) ?_ ?_
  · exact fun w1 hs => ⟨_, Sat.drop2 hs, 0, g, _, _, Pt.head l.length, sp, by omega, by obtain ⟨_, h, _⟩ := hg; exact h, by simp, rfl, rfl, by (first | (simp -implicitDefEqProofs (disch := omega) only [go_sem]; done) | (simp -implicitDefEqProofs (disch := omega) only [go_sem]; rfl)), by (first | (simp -implicitDefEqProofs (disch := omega) only [go_sem]; done) | (simp -implicitDefEqProofs (disch := omega) only [go_sem]; rfl)), by (first | (simp -implicitDefEqProofs (disch := omega) only [go_sem]; done) | (simp -implicitDefEqProofs (disch := omega) only [go_sem]; rfl)), by (first | (simp -implicitDefEqProofs (disch := omega) only [go_sem]; done) | (simp -implicitDefEqProofs (disch := omega) only [go_sem]; rfl)), by (first | (simp -implicitDefEqProofs (disch := omega) only [go_sem]; done) | (simp -implicitDefEqProofs (disch := omega) only [go_sem]; rfl)), rfl⟩
  clear hgw hg
  rintro f h ⟨i, g, n, c', L, sp, hi, hgW, hL, hn, hc', e0, e4, e16, e17, e18, rfl⟩ Q' hQ'
  have hmi : ival (f 18) = (i : Int) := by rw [e18]; rfl
  have hLl : L.length ≤ 32813000013 := by
    have := Pt.flat_len (l := l.take i) fun p hp => ⟨hin p (List.mem_of_mem_take hp), Pt.right_alone hR (List.mem_of_mem_take hp)⟩
    rw [List.length_take] at this
    rw [hL, List.length_append]; omega
  by_cases hil : i < l.length
  rotate_left
  · have g1 : ¬ (i : Int) < (l.length : Int) := by omega
    rw [List.take_of_length_le (by omega)] at hL
    obtain rfl : L = Pt.bytes l := hL
    have hsl := Pt.sumB_len (Pt.bytes l)
    simp -implicitDefEqProofs (disch := omega) only [go_sem, e0, e4, e16, e17, e18, g1, decide_false]
    refine RDraw_seg (by kernel_rfl) (by kernel_rfl) 8 rfl ?_
    refine RS_cutR [0, 2, 7] [1, 3, 4, 5, 6] (by decide +kernel) ?_
    refine RS_det (by kernel_rfl) ?_
    repeat (first | refine ToO_step (fun Q hq => by (simp -implicitDefEqProofs (disch := omega) only [go_sem, e0, e4, e16, e17, e18]; exact hq)) ?_ | refine ToO_guard (by (simp -implicitDefEqProofs only [go_sem, e0, e4, e16, e17, e18]; first | done | fail)) (fun Q hq => by (simp -implicitDefEqProofs (disch := omega) only [go_sem, e0, e4, e16, e17, e18]; exact hq)) ?_ | refine ToO_skip (.inl (by (simp -implicitDefEqProofs only [go_sem, e0, e4, e16, e17, e18]; first | done | fail))) ?_ | refine ToO_skip (.inr (by (simp -implicitDefEqProofs only [go_sem, e0, e4, e16, e17, e18]; first | done | fail))) ?_)
    refine ToO_nil ?_
    refine RS_via [5, 6] (fun f h => f 3 = .int .i64 0 ∧ f 41 = str (Pt.bytes l) ∧ f 44 = str (Pt.sumB (Pt.bytes l)) ∧ h = [.cells g 5 ((Pt.bytes l).map byte ++ sp).toArray, .anchor w []]) (fun K' hI => ?_) ?_
    · refine RS_first [1, 3] (by kernel_rfl) ⟨?_, ?_, trivial⟩
      · simp -implicitDefEqProofs (disch := omega) only [go_sem, e0, e4, e16, e17, e18]
        refine RRun_str_row bytes_t Try.underlying9 hn.symm ?_
        simp -implicitDefEqProofs (disch := omega) only [go_sem, e0, e4, e16, e17, e18]
        refine RS_first (L := [3, 4, 5, 6]) [3] (by kernel_rfl) ⟨?_, trivial⟩
        simp -implicitDefEqProofs (disch := omega) only [go_sem, e0, e4, e16, e17, e18]
        refine RRun_str_row bytes_t Try.underlying9 hn.symm ?_
        simp -implicitDefEqProofs (disch := omega) only [go_sem, e0, e4, e16, e17, e18]
        refine RS_first (L := [4, 5, 6]) [4] (by kernel_rfl) ⟨?_, trivial⟩
        simp -implicitDefEqProofs (disch := omega) only [go_sem, e0, e4, e16, e17, e18]
        refine RCall_eq (pts_sum _ (by omega)) ?_
        simp -implicitDefEqProofs (disch := omega) only [go_sem, e0, e4, e16, e17, e18]
        exact hI _ _ ⟨by (first | (simp -implicitDefEqProofs (disch := omega) only [go_sem]; done) | (simp -implicitDefEqProofs (disch := omega) only [go_sem]; rfl)), by (first | (simp -implicitDefEqProofs (disch := omega) only [go_sem]; done) | (simp -implicitDefEqProofs (disch := omega) only [go_sem]; rfl)), by (first | (simp -implicitDefEqProofs (disch := omega) only [go_sem]; done) | (simp -implicitDefEqProofs (disch := omega) only [go_sem]; rfl)), rfl⟩
      · simp -implicitDefEqProofs (disch := omega) only [go_sem, e0, e4, e16, e17, e18]
        refine RRun_str_row bytes_t Try.underlying9 hn.symm ?_
        simp -implicitDefEqProofs (disch := omega) only [go_sem, e0, e4, e16, e17, e18]
        refine RS_first (L := [1, 4, 5, 6]) [1, 4] (by kernel_rfl) ⟨?_, ?_, trivial⟩
        · simp -implicitDefEqProofs (disch := omega) only [go_sem, e0, e4, e16, e17, e18]
          refine RRun_str_row bytes_t Try.underlying9 hn.symm ?_
          simp -implicitDefEqProofs (disch := omega) only [go_sem, e0, e4, e16, e17, e18]
          refine RS_first (L := [4, 5, 6]) [4] (by kernel_rfl) ⟨?_, trivial⟩
          simp -implicitDefEqProofs (disch := omega) only [go_sem, e0, e4, e16, e17, e18]
          refine RCall_eq (pts_sum _ (by omega)) ?_
          simp -implicitDefEqProofs (disch := omega) only [go_sem, e0, e4, e16, e17, e18]
          exact hI _ _ ⟨by (first | (simp -implicitDefEqProofs (disch := omega) only [go_sem]; done) | (simp -implicitDefEqProofs (disch := omega) only [go_sem]; rfl)), by (first | (simp -implicitDefEqProofs (disch := omega) only [go_sem]; done) | (simp -implicitDefEqProofs (disch := omega) only [go_sem]; rfl)), by (first | (simp -implicitDefEqProofs (disch := omega) only [go_sem]; done) | (simp -implicitDefEqProofs (disch := omega) only [go_sem]; rfl)), rfl⟩
        · simp -implicitDefEqProofs (disch := omega) only [go_sem, e0, e4, e16, e17, e18]
          refine RCall_eq (pts_sum _ (by omega)) ?_
          simp -implicitDefEqProofs (disch := omega) only [go_sem, e0, e4, e16, e17, e18]
          refine RS_first (L := [1, 5, 6]) [1] (by kernel_rfl) ⟨?_, trivial⟩
          simp -implicitDefEqProofs (disch := omega) only [go_sem, e0, e4, e16, e17, e18]
          refine RRun_str_row bytes_t Try.underlying9 hn.symm ?_
          simp -implicitDefEqProofs (disch := omega) only [go_sem, e0, e4, e16, e17, e18]
          exact hI _ _ ⟨by (first | (simp -implicitDefEqProofs (disch := omega) only [go_sem]; done) | (simp -implicitDefEqProofs (disch := omega) only [go_sem]; rfl)), by (first | (simp -implicitDefEqProofs (disch := omega) only [go_sem]; done) | (simp -implicitDefEqProofs (disch := omega) only [go_sem]; rfl)), by (first | (simp -implicitDefEqProofs (disch := omega) only [go_sem]; done) | (simp -implicitDefEqProofs (disch := omega) only [go_sem]; rfl)), rfl⟩
    rintro f h ⟨f3, f41, f44, rfl⟩
    refine RS_text (by kernel_rfl) ?_
    simp -implicitDefEqProofs (disch := omega) only [go_sem, f3, f41, f44]
    exact hQ _ _ fun w' hs => ⟨rfl, hs.anchor (by simp)⟩
  have g1 : (i : Int) < (l.length : Int) := by omega
  obtain ⟨b, o, rfl, hb', hcl, _⟩ := pt_at hr i hil
  have hpi := in_getD hin hil
  have hpa : Pt.Alone (l.getD i Pt.p0) := Pt.right_alone hR (by rw [List.getD_eq_getElem?_getD, List.getElem?_eq_getElem hil]; exact List.getElem_mem _)
  have hft := flat_take hil
  generalize hp : l.getD i Pt.p0 = p at *
  have hptl := Pt.ptB_len hpi hpa
  have hwl : p.win.length ≤ 32768 := by obtain ⟨_, _, _, _, _, _, h⟩ := hpa; omega
  have hpte : Pt.ptB p = Pt.putS [p.bit, p.out, p.tok, p.frm] ++ Vint.text p.win := rfl
  have hptl2 : (Pt.ptB p).length = (Pt.putS [p.bit, p.out, p.tok, p.frm]).length + (Vint.text p.win).length := by rw [hpte, List.length_append]
  have hbg : b ≠ g := by omega
  simp -implicitDefEqProofs (disch := omega) only [go_sem, e0, e4, e16, e17, e18, g1, hcl, decide_true]
  refine RNew_intro fun gp hgp => ?_
  have ngp : g ≠ gp := by obtain ⟨h, _⟩ := hgp; exact Nat.ne_of_lt h
  simp -implicitDefEqProofs (disch := omega) only [go_sem, e0, e4, e16, e17, e18]
  refine RRun_buildz [.int .i64 p.bit, .int .i64 p.out, .int .i64 p.tok, .int .i64 p.frm] (iv [p.bit, p.out, p.tok, p.frm]) ints_sl rfl rfl (by decide) (fun v hv => by
    simp only [List.mem_cons, List.not_mem_nil, or_false] at hv
    rcases hv with rfl | rfl | rfl | rfl <;> rfl) rfl (by decide) fun gw hgw => ?_
  simp -implicitDefEqProofs (disch := omega) only [go_sem, e0, e4, e16, e17, e18]
  refine RCall_eqS (fun w1 hs => pts_put [p.bit, p.out, p.tok, p.frm] (some ⟨gw, 0, none⟩) 4 (by simp) (fun n hn => by
    simp only [List.mem_cons, List.not_mem_nil, or_false] at hn
    obtain ⟨h1, h2, h3, h4, _⟩ := hpi
    rcases hn with rfl | rfl | rfl | rfl <;> assumption) w1 (iv_rd (t := 3) hs List.mem_cons_self)) ?_
  simp -implicitDefEqProofs (disch := omega) only [go_sem, e0, e4, e16, e17, e18]
  refine RRun_append_text (L := L) (sp := sp) bytes_sl Try.underlying9 (by kernel_rfl) (fun _ hs => Sat.swap2 hs.2.2.2) hn hc' (by omega) fun g2 n2 c2 sp2 hg2 hn2 hc2 => ?_
  have hgw2 : w.heap.size ≤ g2 := by
    rcases hg2 with rfl | h
    · exact hgW
    · obtain ⟨_, _, _, h, _⟩ := h; exact h
  have ng2 : gp ≠ g2 := by
    rcases hg2 with rfl | h
    · exact Ne.symm ngp
    · obtain ⟨_, h, _⟩ := h; exact Nat.ne_of_lt h
  simp -implicitDefEqProofs (disch := omega) only [go_sem, e0, e4, e16, e17, e18]
  refine RCall_eq (vint_text p.win (by omega)) ?_
  simp -implicitDefEqProofs (disch := omega) only [go_sem, e0, e4, e16, e17, e18]
  refine RRun_append_text (L := L ++ Pt.putS [p.bit, p.out, p.tok, p.frm]) (sp := sp2) bytes_sl Try.underlying9 (by kernel_rfl) (fun _ hs => hs) hn2 hc2 (by rw [hn2, List.length_append]; omega) fun g3 n3 c3 sp3 hg3 hn3 hc3 => ?_
  have hgw3 : w.heap.size ≤ g3 := by
    rcases hg3 with rfl | h
    · exact hgw2
    · obtain ⟨_, _, h, _⟩ := h; exact h
  simp -implicitDefEqProofs (disch := omega) only [go_sem, e0, e4, e16, e17, e18]
  refine hQ' _ _ fun w1 hs => ⟨_, Sat.drop2 hs, ⟨i + 1, g3, n3, c3, _, sp3, by omega, hgw3, ?_, hn3, hc3, ?_, ?_, ?_, ?_, ?_, rfl⟩, ?_⟩
  · rw [hft, hL, hpte]; simp only [List.append_assoc]
  · (first | (simp -implicitDefEqProofs (disch := omega) only [go_sem, e0, e4, e16, e17, e18]; done) | (simp -implicitDefEqProofs (disch := omega) only [go_sem, e0, e4, e16, e17, e18]; rfl))
  · (first | (simp -implicitDefEqProofs (disch := omega) only [go_sem, e0, e4, e16, e17, e18]; done) | (simp -implicitDefEqProofs (disch := omega) only [go_sem, e0, e4, e16, e17, e18]; rfl))
  · (first | (simp -implicitDefEqProofs (disch := omega) only [go_sem, e0, e4, e16, e17, e18]; done) | (simp -implicitDefEqProofs (disch := omega) only [go_sem, e0, e4, e16, e17, e18]; rfl))
  · (first | (simp -implicitDefEqProofs (disch := omega) only [go_sem, e0, e4, e16, e17, e18]; done) | (simp -implicitDefEqProofs (disch := omega) only [go_sem, e0, e4, e16, e17, e18]; rfl))
  · (first | (simp -implicitDefEqProofs (disch := omega) only [go_sem, e0, e4, e16, e17, e18]; done) | (simp -implicitDefEqProofs (disch := omega) only [go_sem, e0, e4, e16, e17, e18]; rfl))
  · simp -implicitDefEqProofs (disch := omega) only [go_sem, e0, e4, e16, e17, e18, hmi]; omega
end Go.Proofs.Ytjcchmlideknpaa
