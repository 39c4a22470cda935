/- points' reference: the walks: the bytes of points; the law. -/
import Derived.Test.YtjcchmlideknpaaPtAA
namespace Go.Proofs.Ytjcchmlideknpaa
set_option linter.unusedSimpArgs false
set_option linter.unusedVariables false
open H
theorem rpts_num (n : Int) (h : Pt.In64 n) (w : World) : Does Try.prog 28 #[.int .i64 n] w fun v w' => v = str (Vint.put n).1 ∧ Ext [] w w' := by
  refine does (args := [.int .i64 n]) Try.func28 rfl (by kernel_rfl) (by kernel_rfl) rfl ent_28 (Sat.start w []) ?_; intro QV hQ
  simp -implicitDefEqProofs (disch := omega) only [go_sem]
  refine RCall_eq (ref_put n h) ?_
  simp -implicitDefEqProofs (disch := omega) only [go_sem]
  exact hQ _ _ fun w' hs => ⟨rfl, hs.anchor (by simp)⟩
set_option maxRecDepth 20000 in
set_option maxHeartbeats 4000000 in
theorem rpts_build (l : List Pt.P) (a : Option Addr) (c : Nat) (hll : l.length ≤ 1000000) (hin : ∀ p ∈ l, Pt.InR p) (w : World) (hr : Rd w a l.length 5 (ofL Pt.ptC Pt.p0 l)) :
    Does Try.prog 11 #[.slice a l.length c] w fun v w' => v = .tuple #[str (Pt.build l).1, .int .i64 (Pt.build l).2] ∧ Ext [] w w' := by
  refine does (args := [.slice a l.length c]) Try.func11 rfl (by kernel_rfl) (by kernel_rfl) rfl ent_11 (Sat.start w []) ?_; intro QV hQ
  simp -implicitDefEqProofs (disch := omega) only [go_sem]
  refine RCall_eqS (fun w1 hs => rpts_right l a c (by omega) hin w1 (hr.keep (hs.anchor (by simp)))) ?_
  by_cases hR : Pt.Right l
  rotate_left
  · have hb : Pt.build l = ([], 4) := by unfold Pt.build; rw [if_neg hR]
    rw [hb] at hQ
    simp -implicitDefEqProofs (disch := omega) only [go_sem, hR, decide_false]
    exact hQ _ _ fun w' hs => ⟨rfl, hs.anchor (by simp)⟩
  have hb : Pt.build l = (Pt.bytes l ++ Pt.sumB (Pt.bytes l), 0) := by unfold Pt.build; rw [if_pos hR]
  rw [hb] at hQ
  have hbl := Pt.bytes_len hin hR hll
  have hhl := Pt.head_len l.length (by omega)
  have hpl := Pt.put_len (n := (l.length : Int)) (by omega)
  simp -implicitDefEqProofs (disch := omega) only [go_sem, hR, decide_true]
  refine RCall_eq (rpts_num (l.length : Int) ⟨by omega, by omega⟩) ?_
  have hhd : ([82, 83, 84, 80] : List UInt8) ++ (Vint.put (l.length : Int)).1 = Pt.head l.length := by unfold Pt.head; rw [Pt.putS_cons, Pt.putS_nil, List.append_nil]
  have b0 : strV .add ⟨#[82, 83, 84, 80]⟩ ⟨(Vint.put (l.length : Int)).1.toArray⟩ = some (str (Pt.head l.length)) := by
    rw [← hhd]; exact strV_add [82, 83, 84, 80] _ (by simp only [List.length_cons, List.length_nil]; omega)
  simp -implicitDefEqProofs (disch := omega) only [go_sem, b0]
  refine RLoop_intro (fun f h => ∃ (i : Nat) (L : List UInt8), i ≤ l.length ∧ L = Pt.head l.length ++ (l.take i).flatMap Pt.ptB ∧ f 0 = .slice a l.length c ∧ f 4 = str L ∧ f 5 = .int .i64 (i : Int) ∧ h = [.anchor w []]) (fun f _ => (l.length - ival (f 5)).toNat) ?_ ?_
  · exact ⟨0, Pt.head l.length, by omega, by simp, by (first | (simp -implicitDefEqProofs (disch := omega) only [go_sem]; done) | (simp -implicitDefEqProofs (disch := omega) only [go_sem]; rfl)), by (first | (simp -implicitDefEqProofs (disch := omega) only [go_sem]; done) | (simp -implicitDefEqProofs (disch := omega) only [go_sem]; rfl)), by (first | (simp -implicitDefEqProofs (disch := omega) only [go_sem]; done) | (simp -implicitDefEqProofs (disch := omega) only [go_sem]; rfl)), rfl⟩
  rintro f h ⟨i, L, hi, hL, e0, e4, e5, rfl⟩ Q' hQ'
  have hmi : ival (f 5) = (i : Int) := by rw [e5]; rfl
  have hLl : L.length ≤ 32813000013 := by
    have := Pt.flat_len (l := l.take i) fun p hp => ⟨hin p (List.mem_of_mem_take hp), Pt.right_alone hR (List.mem_of_mem_take hp)⟩
    rw [List.length_take] at this
    rw [hL, List.length_append]; omega
  by_cases hil : i < l.length
  rotate_left
  · have g1 : ¬ (i : Int) < (l.length : Int) := by omega
    rw [List.take_of_length_le (by omega)] at hL
    obtain rfl : L = Pt.bytes l := hL
    have hsl := Pt.sumB_len (Pt.bytes l)
    have hlt := (Crc.of (Pt.bytes l)).isLt
    simp -implicitDefEqProofs (disch := omega) only [go_sem, e0, e4, e5, g1, decide_false]
    refine RCall_eq (ref_of _ (by omega)) ?_
    simp -implicitDefEqProofs (disch := omega) only [go_sem, e0, e4, e5]
    refine RCall_eq (ref_fixed _ 4 (by omega)) ?_
    rw [crc_fix]
    simp -implicitDefEqProofs (disch := omega) only [go_sem, e0, e4, e5]
    exact hQ _ _ fun w' hs => ⟨rfl, hs.anchor (by simp)⟩
  have g1 : (i : Int) < (l.length : Int) := by omega
  obtain ⟨b, o, rfl, hb', hcl, _⟩ := pt_at hr i hil
  have hpi := in_getD hin hil
  have hpa : Pt.Alone (l.getD i Pt.p0) := Pt.right_alone hR (Pt.getD_mem Pt.p0 hil)
  have hft := flat_take hil
  generalize hp : l.getD i Pt.p0 = p at *
  have hwl : p.win.length ≤ 32768 := by obtain ⟨_, _, _, _, _, _, h⟩ := hpa; omega
  have hpte : Pt.ptB p = (Vint.put p.bit).1 ++ ((Vint.put p.out).1 ++ ((Vint.put p.tok).1 ++ ((Vint.put p.frm).1 ++ Vint.text p.win))) := by
    unfold Pt.ptB
    simp only [Pt.putS_cons, Pt.putS_nil, List.append_nil, List.append_assoc]
  obtain ⟨i1, i2, i3, i4, _⟩ := hpi
  have p1 := Pt.put_len i1.2
  have p2 := Pt.put_len i2.2
  have p3 := Pt.put_len i3.2
  have p4 := Pt.put_len i4.2
  have p5 := Pt.text_len p.win (by omega)
  simp -implicitDefEqProofs (disch := omega) only [go_sem, e0, e4, e5, g1, hcl, decide_true]
  refine RNew_intro fun gp hgp => ?_
  simp -implicitDefEqProofs (disch := omega) only [go_sem, e0, e4, e5]
  obtain ⟨A1, hA1⟩ : ∃ A, A = (Vint.put p.bit).1 := ⟨_, rfl⟩
  obtain ⟨A2, hA2⟩ : ∃ A, A = (Vint.put p.out).1 := ⟨_, rfl⟩
  obtain ⟨A3, hA3⟩ : ∃ A, A = (Vint.put p.tok).1 := ⟨_, rfl⟩
  obtain ⟨A4, hA4⟩ : ∃ A, A = (Vint.put p.frm).1 := ⟨_, rfl⟩
  obtain ⟨A5, hA5⟩ : ∃ A, A = Vint.text p.win := ⟨_, rfl⟩
  have c1 : ∀ w1, Does Try.prog 28 #[.int .i64 p.bit] w1 fun v w' => v = str A1 ∧ Ext [] w1 w' := by rw [hA1]; exact rpts_num p.bit i1
  have c2 : ∀ w1, Does Try.prog 28 #[.int .i64 p.out] w1 fun v w' => v = str A2 ∧ Ext [] w1 w' := by rw [hA2]; exact rpts_num p.out i2
  have c3 : ∀ w1, Does Try.prog 28 #[.int .i64 p.tok] w1 fun v w' => v = str A3 ∧ Ext [] w1 w' := by rw [hA3]; exact rpts_num p.tok i3
  have c4 : ∀ w1, Does Try.prog 28 #[.int .i64 p.frm] w1 fun v w' => v = str A4 ∧ Ext [] w1 w' := by rw [hA4]; exact rpts_num p.frm i4
  have c5 : ∀ w1, Does Try.prog 29 #[str p.win] w1 fun v w' => v = str A5 ∧ Ext [] w1 w' := by rw [hA5]; exact ref_text p.win (by omega)
  rw [← hA1] at p1 hpte
  rw [← hA2] at p2 hpte
  rw [← hA3] at p3 hpte
  rw [← hA4] at p4 hpte
  rw [← hA5] at p5 hpte
  have l1 : (L ++ A1).length = L.length + A1.length := List.length_append
  have l2 : (L ++ A1 ++ A2).length = L.length + A1.length + A2.length := by simp only [List.length_append]
  have l3 : (L ++ A1 ++ A2 ++ A3).length = L.length + A1.length + A2.length + A3.length := by simp only [List.length_append]
  have l4 : (L ++ A1 ++ A2 ++ A3 ++ A4).length = L.length + A1.length + A2.length + A3.length + A4.length := by simp only [List.length_append]
  clear hA1 hA2 hA3 hA4 hA5
  refine RDraw_seg (by kernel_rfl) (by kernel_rfl) 22 rfl ?_
  refine RS_det (by kernel_rfl) ?_
  repeat (first | refine ToO_step (fun Q hq => by (simp -implicitDefEqProofs (disch := omega) only [go_sem, e0, e4, e5]; exact hq)) ?_ | refine ToO_guard (by (simp -implicitDefEqProofs only [go_sem, e0, e4, e5]; first | done | fail)) (fun Q hq => by (simp -implicitDefEqProofs (disch := omega) only [go_sem, e0, e4, e5]; exact hq)) ?_ | refine ToO_skip (.inl (by (simp -implicitDefEqProofs only [go_sem, e0, e4, e5]; first | done | fail))) ?_ | refine ToO_skip (.inr (by (simp -implicitDefEqProofs only [go_sem, e0, e4, e5]; first | done | fail))) ?_)
  first | refine ToO_step (fun Q hq => by (simp -implicitDefEqProofs (disch := omega) only [go_sem, e0, e4, e5]; refine RCall_eq (c1) ?_; simp -implicitDefEqProofs (disch := omega) only [go_sem, e0, e4, e5]; exact hq)) ?_ | refine ToO_guard (by (simp -implicitDefEqProofs only [go_sem, e0, e4, e5]; first | done | fail)) (fun Q hq => by (simp -implicitDefEqProofs (disch := omega) only [go_sem, e0, e4, e5]; refine RCall_eq (c1) ?_; simp -implicitDefEqProofs (disch := omega) only [go_sem, e0, e4, e5]; exact hq)) ?_
  repeat (first | refine ToO_step (fun Q hq => by (simp -implicitDefEqProofs (disch := omega) only [go_sem, e0, e4, e5]; exact hq)) ?_ | refine ToO_guard (by (simp -implicitDefEqProofs only [go_sem, e0, e4, e5]; first | done | fail)) (fun Q hq => by (simp -implicitDefEqProofs (disch := omega) only [go_sem, e0, e4, e5]; exact hq)) ?_ | refine ToO_skip (.inl (by (simp -implicitDefEqProofs only [go_sem, e0, e4, e5]; first | done | fail))) ?_ | refine ToO_skip (.inr (by (simp -implicitDefEqProofs only [go_sem, e0, e4, e5]; first | done | fail))) ?_)
  first | refine ToO_step (fun Q hq => by (simp -implicitDefEqProofs (disch := omega) only [go_sem, e0, e4, e5]; refine RCall_eq (c2) ?_; simp -implicitDefEqProofs (disch := omega) only [go_sem, e0, e4, e5]; exact hq)) ?_ | refine ToO_guard (by (simp -implicitDefEqProofs only [go_sem, e0, e4, e5]; first | done | fail)) (fun Q hq => by (simp -implicitDefEqProofs (disch := omega) only [go_sem, e0, e4, e5]; refine RCall_eq (c2) ?_; simp -implicitDefEqProofs (disch := omega) only [go_sem, e0, e4, e5]; exact hq)) ?_
  repeat (first | refine ToO_step (fun Q hq => by (simp -implicitDefEqProofs (disch := omega) only [go_sem, e0, e4, e5]; exact hq)) ?_ | refine ToO_guard (by (simp -implicitDefEqProofs only [go_sem, e0, e4, e5]; first | done | fail)) (fun Q hq => by (simp -implicitDefEqProofs (disch := omega) only [go_sem, e0, e4, e5]; exact hq)) ?_ | refine ToO_skip (.inl (by (simp -implicitDefEqProofs only [go_sem, e0, e4, e5]; first | done | fail))) ?_ | refine ToO_skip (.inr (by (simp -implicitDefEqProofs only [go_sem, e0, e4, e5]; first | done | fail))) ?_)
  first | refine ToO_step (fun Q hq => by (simp -implicitDefEqProofs (disch := omega) only [go_sem, e0, e4, e5]; refine RCall_eq (c3) ?_; simp -implicitDefEqProofs (disch := omega) only [go_sem, e0, e4, e5]; exact hq)) ?_ | refine ToO_guard (by (simp -implicitDefEqProofs only [go_sem, e0, e4, e5]; first | done | fail)) (fun Q hq => by (simp -implicitDefEqProofs (disch := omega) only [go_sem, e0, e4, e5]; refine RCall_eq (c3) ?_; simp -implicitDefEqProofs (disch := omega) only [go_sem, e0, e4, e5]; exact hq)) ?_
  repeat (first | refine ToO_step (fun Q hq => by (simp -implicitDefEqProofs (disch := omega) only [go_sem, e0, e4, e5]; exact hq)) ?_ | refine ToO_guard (by (simp -implicitDefEqProofs only [go_sem, e0, e4, e5]; first | done | fail)) (fun Q hq => by (simp -implicitDefEqProofs (disch := omega) only [go_sem, e0, e4, e5]; exact hq)) ?_ | refine ToO_skip (.inl (by (simp -implicitDefEqProofs only [go_sem, e0, e4, e5]; first | done | fail))) ?_ | refine ToO_skip (.inr (by (simp -implicitDefEqProofs only [go_sem, e0, e4, e5]; first | done | fail))) ?_)
  first | refine ToO_step (fun Q hq => by (simp -implicitDefEqProofs (disch := omega) only [go_sem, e0, e4, e5]; refine RCall_eq (c4) ?_; simp -implicitDefEqProofs (disch := omega) only [go_sem, e0, e4, e5]; exact hq)) ?_ | refine ToO_guard (by (simp -implicitDefEqProofs only [go_sem, e0, e4, e5]; first | done | fail)) (fun Q hq => by (simp -implicitDefEqProofs (disch := omega) only [go_sem, e0, e4, e5]; refine RCall_eq (c4) ?_; simp -implicitDefEqProofs (disch := omega) only [go_sem, e0, e4, e5]; exact hq)) ?_
  repeat (first | refine ToO_step (fun Q hq => by (simp -implicitDefEqProofs (disch := omega) only [go_sem, e0, e4, e5]; exact hq)) ?_ | refine ToO_guard (by (simp -implicitDefEqProofs only [go_sem, e0, e4, e5]; first | done | fail)) (fun Q hq => by (simp -implicitDefEqProofs (disch := omega) only [go_sem, e0, e4, e5]; exact hq)) ?_ | refine ToO_skip (.inl (by (simp -implicitDefEqProofs only [go_sem, e0, e4, e5]; first | done | fail))) ?_ | refine ToO_skip (.inr (by (simp -implicitDefEqProofs only [go_sem, e0, e4, e5]; first | done | fail))) ?_)
  first | refine ToO_step (fun Q hq => by (simp -implicitDefEqProofs (disch := omega) only [go_sem, e0, e4, e5]; refine RCall_eq (c5) ?_; simp -implicitDefEqProofs (disch := omega) only [go_sem, e0, e4, e5]; exact hq)) ?_ | refine ToO_guard (by (simp -implicitDefEqProofs only [go_sem, e0, e4, e5]; first | done | fail)) (fun Q hq => by (simp -implicitDefEqProofs (disch := omega) only [go_sem, e0, e4, e5]; refine RCall_eq (c5) ?_; simp -implicitDefEqProofs (disch := omega) only [go_sem, e0, e4, e5]; exact hq)) ?_
  repeat (first | refine ToO_step (fun Q hq => by (simp -implicitDefEqProofs (disch := omega) only [go_sem, e0, e4, e5]; exact hq)) ?_ | refine ToO_guard (by (simp -implicitDefEqProofs only [go_sem, e0, e4, e5]; first | done | fail)) (fun Q hq => by (simp -implicitDefEqProofs (disch := omega) only [go_sem, e0, e4, e5]; exact hq)) ?_ | refine ToO_skip (.inl (by (simp -implicitDefEqProofs only [go_sem, e0, e4, e5]; first | done | fail))) ?_ | refine ToO_skip (.inr (by (simp -implicitDefEqProofs only [go_sem, e0, e4, e5]; first | done | fail))) ?_)
  refine ToO_nil ?_
  simp -implicitDefEqProofs (disch := omega) only [go_sem, e0, e4, e5]
  refine hQ' _ _ _ (fun _ hs => hs.2.2.2) ⟨i + 1, L ++ A1 ++ A2 ++ A3 ++ A4 ++ A5, by omega, ?_, ?_, ?_, ?_, rfl⟩ ?_
  · rw [hft, hL, hpte]; simp only [List.append_assoc]
  · (first | (simp -implicitDefEqProofs (disch := omega) only [go_sem, e0, e4, e5]; done) | (simp -implicitDefEqProofs (disch := omega) only [go_sem, e0, e4, e5]; rfl))
  · (first | (simp -implicitDefEqProofs (disch := omega) only [go_sem, e0, e4, e5]; done) | (simp -implicitDefEqProofs (disch := omega) only [go_sem, e0, e4, e5]; rfl))
  · (first | (simp -implicitDefEqProofs (disch := omega) only [go_sem, e0, e4, e5]; done) | (simp -implicitDefEqProofs (disch := omega) only [go_sem, e0, e4, e5]; rfl))
  · simp -implicitDefEqProofs (disch := omega) only [go_sem, e0, e4, e5, hmi]; omega
set_option maxRecDepth 20000 in
set_option maxHeartbeats 4000000 in
theorem law_pright (l : List Pt.P) (a : Option Addr) (c : Nat) (at_ : Int) (hll : l.length ≤ maxLen) (hin : ∀ p ∈ l, Pt.InR p) (w : World) (hr : Rd w a l.length 5 (ofL Pt.ptC Pt.p0 l)) :
    Does Try.prog 3 #[.slice a l.length c, .int .i64 at_] w fun v w' => v = .bool true ∧ Ext [] w w' := by
  refine does (args := [.slice a l.length c, .int .i64 at_]) Try.func3 rfl (by kernel_rfl) (by kernel_rfl) rfl ent_3 (Sat.start w []) ?_; intro QV hQ
  simp -implicitDefEqProofs (disch := omega) only [go_sem]
  refine RCall_eqS (fun w1 hs => pts_light l a c hll w1 (hr.keep (hs.anchor (by simp)))) ?_
  by_cases hli : Light l
  rotate_left
  · simp -implicitDefEqProofs (disch := omega) only [go_sem, hli, decide_false]
    refine RCall_eq pts_known ?_
    simp -implicitDefEqProofs (disch := omega) only [go_sem]
    exact hQ _ _ fun w' hs => ⟨rfl, hs.anchor (by simp)⟩
  have hl20 := hli.1
  simp -implicitDefEqProofs (disch := omega) only [go_sem, hli, decide_true]
  refine RCall_eqS (fun w1 hs => pts_build l a c (by omega) hin w1 (hr.keep (hs.anchor (by simp)))) ?_
  simp -implicitDefEqProofs (disch := omega) only [go_sem]
  refine RCall_eqS (fun w1 hs => rpts_build l a c (by omega) hin w1 (hr.keep (hs.anchor (by simp)))) ?_
  generalize Pt.build l = be
  obtain ⟨bb, e⟩ := be
  simp -implicitDefEqProofs (disch := omega) only [go_sem, decide_true]
  refine RCall_eqS (fun w1 hs => pts_right l a c (by omega) hin w1 (hr.keep (hs.anchor (by simp)))) ?_
  simp -implicitDefEqProofs (disch := omega) only [go_sem]
  refine RCall_eqS (fun w1 hs => rpts_right l a c (by omega) hin w1 (hr.keep (hs.anchor (by simp)))) ?_
  simp -implicitDefEqProofs (disch := omega) only [go_sem, decide_true, beq_self_eq_true]
  refine RCall_eqS (fun w1 hs => rpts_right l a c (by omega) hin w1 (hr.keep (hs.anchor (by simp)))) ?_
  by_cases hR : Pt.Right l
  rotate_left
  · simp -implicitDefEqProofs (disch := omega) only [go_sem, hR, decide_false]
    refine RCall_eq pts_known ?_
    simp -implicitDefEqProofs (disch := omega) only [go_sem]
    exact hQ _ _ fun w' hs => ⟨rfl, hs.anchor (by simp)⟩
  simp -implicitDefEqProofs (disch := omega) only [go_sem, hR, decide_true]
  refine RCall_eqS (fun w1 hs => pts_near l a c at_ (by omega) (right_sorted hR) w1 (hr.keep (hs.anchor (by simp)))) ?_
  simp -implicitDefEqProofs (disch := omega) only [go_sem]
  refine RCall_eqS (fun w1 hs => rpts_near l a c at_ (by omega) hR w1 (hr.keep (hs.anchor (by simp)))) ?_
  simp -implicitDefEqProofs (disch := omega) only [go_sem, decide_true]
  refine RCall_eq pts_known ?_
  simp -implicitDefEqProofs (disch := omega) only [go_sem]
  exact hQ _ _ fun w' hs => ⟨rfl, hs.anchor (by simp)⟩
end Go.Proofs.Ytjcchmlideknpaa
