/- node's reference: the walks: a node's bytes. -/
import Derived.Test.YtlmbebnpnnkhmaaNodeD
namespace Go.Proofs.Ytlmbebnpnnkhmaa
set_option linter.unusedSimpArgs false
set_option linter.unusedVariables false
open H
theorem strV_add1 (c : UInt8) (b : List UInt8) (h : b.length ≤ 9223372036854775806) : strV .add ⟨#[c]⟩ ⟨b.toArray⟩ = some (str (c :: b)) := strV_add [c] b (by simp; omega)
theorem hd_t {n : Nd.N} (h : n.leaf = true) (hs : Nd.sizes n = true) : [1] ++ Nd.nb (n.toks.length : Int) 1 = Nd.tailT n 0 := by
  rcases Nd.sizes_le hs with ⟨_, k1, k2⟩ | ⟨k0, k1, k2⟩
  · have e : (n.toks.length : Int) + (n.kids.length : Int) = (n.toks.length : Int) := by rw [k1]; simp
    unfold Nd.tailT Nd.hd; rw [h, if_pos rfl, e]
    have : Nd.nb 1 1 = [1] := by decide
    rw [this]; simp
  · rw [h] at k0; cases k0
theorem hd_f {n : Nd.N} (h : n.leaf = false) (hs : Nd.sizes n = true) : [2] ++ Nd.nb (n.kids.length : Int) 1 = Nd.tailT n 0 := by
  rcases Nd.sizes_le hs with ⟨k0, k1, k2⟩ | ⟨_, k1, k2⟩
  · rw [h] at k0; cases k0
  · have e : (n.toks.length : Int) + (n.kids.length : Int) = (n.kids.length : Int) := by rw [k1]; simp
    unfold Nd.tailT Nd.hd; rw [h, if_neg (by simp), e]
    have : Nd.nb 2 1 = [2] := by decide
    rw [this]; simp
set_option maxRecDepth 20000 in
set_option maxHeartbeats 4000000 in
theorem rnode_build (n : Nd.N) (a1 a2 : Option Addr) (c1 c2 : Nat) (hl1 : n.toks.length ≤ 2147483648) (hl2 : n.kids.length ≤ 2147483648) (w : World) (hm : Nd.Mem w n a1 a2) : Does Try.prog 15 #[Nd.nV n a1 c1 a2 c2] w fun v w' => v = .tuple #[str (Nd.build n).1, .int .i64 (Nd.build n).2] ∧ Ext [] w w' := by
  unfold Nd.nV
  refine does (args := [.agg #[.bool n.leaf, .slice a1 n.toks.length c1, .slice a2 n.kids.length c2]]) Try.func15 rfl (by kernel_rfl) (by kernel_rfl) rfl ent_15 (Sat.start w []) ?_; intro QV hQ
  simp -implicitDefEqProofs (disch := omega) only [go_sem]
  refine RNew_intro fun g hg => ?_
  simp only [below_cons, below_nil, under_anchor, and_true] at hg
  simp -implicitDefEqProofs (disch := omega) only [go_sem]
  refine RCall_eqS (fun w1 hs => rnode_right n a1 a2 c1 c2 hl1 hl2 w1 (hm.keep (hs.mem (.anchor w []) (by simp)))) ?_
  cases hr : Nd.right n with
  | false =>
    simp -implicitDefEqProofs (disch := omega) only [go_sem]
    exact hQ _ _ fun w' hs => ⟨by unfold Nd.build; rw [if_neg (by rw [hr]; simp)], hs.anchor (by simp)⟩
  | true =>
  have hb : Nd.build n = (Nd.bytes n, 0) := by unfold Nd.build; rw [if_pos hr]
  rw [hb] at hQ
  have h1 := (Nd.right_iff.1 hr).1
  have h2 := (Nd.right_iff.1 hr).2.1
  have hsz := (Nd.right_iff.1 hr).2.2
  have hlen1 := Nd.nb_len (n.kids.length : Int) 1
  have hlen2 := Nd.nb_len (n.toks.length : Int) 1
  simp -implicitDefEqProofs (disch := omega) only [go_sem]
  refine RCall_eq (rnode_num (n.kids.length : Int) 1 (by omega)) ?_
  cases hlf : n.leaf with
  | true =>
    simp -implicitDefEqProofs (disch := omega) only [go_sem, hlf, strV_add1]
    refine RCall_eq (rnode_num (n.toks.length : Int) 1 (by omega)) ?_
    simp -implicitDefEqProofs (disch := omega) only [go_sem, hlf, strV_add1]
    have hhd := hd_t hlf hsz
    rw [List.singleton_append] at hhd
    rw [hhd]
    generalize hH : [Res.cells g 25 #[.bool true, .slice a1 n.toks.length c1, .slice a2 n.kids.length c2], .anchor w []] = H at *
    refine RLoop_intro (fun f h => ∃ (i : Nat), i ≤ n.toks.length ∧ f 1 = .pointer (some ⟨g, 0, none⟩) ∧ f 4 = str (Nd.tailT n i) ∧ f 5 = .int .i64 (i : Int) ∧ h = H) (fun f _ => (n.toks.length - ival (f 5)).toNat) ?_ ?_
    · exact ⟨0, by omega, by (first | (simp -implicitDefEqProofs (disch := omega) only [go_sem]; done) | (simp -implicitDefEqProofs (disch := omega) only [go_sem]; rfl)), by (first | (simp -implicitDefEqProofs (disch := omega) only [go_sem]; done) | (simp -implicitDefEqProofs (disch := omega) only [go_sem]; rfl)), by (first | (simp -implicitDefEqProofs (disch := omega) only [go_sem]; done) | (simp -implicitDefEqProofs (disch := omega) only [go_sem]; rfl)), rfl⟩
    rintro f h ⟨i, hi, e1, e4, e5, rfl⟩ Q' hQ'
    subst hH
    by_cases hil : i < n.toks.length
    · have g1 : (i : Int) < (n.toks.length : Int) := by omega
      obtain ⟨b, o, rfl, hbb, _, hc0, hc1, hc2⟩ := three_at hm.toks i hil
      have hnext := Nd.tailT_succ hil
      have hok := Nd.up_mem h1 _ (Nd.getD_mem hil)
      have htl := (Nd.tail_len hr i).1
      generalize n.toks.getD i Tok.tk0 = x at *
      obtain ⟨y1, y2, y3⟩ := Nd.okT_iff.1 hok
      have hxe : Nd.tailT n i ++ Nd.nb x.1 4 ++ Nd.nb x.2.1 2 ++ Nd.nb (x.2.2 + 1) 1 = Nd.tailT n i ++ Nd.tB x := by unfold Nd.tB; simp
      have z1 := Nd.nb_len x.1 4
      have z2 := Nd.nb_len x.2.1 2
      have z3 := Nd.nb_len (x.2.2 + 1) 1
      have z4 : (Nd.tailT n i ++ Nd.nb x.1 4).length = (Nd.tailT n i).length + (Nd.nb x.1 4).length := List.length_append
      have z5 : (Nd.tailT n i ++ Nd.nb x.1 4 ++ Nd.nb x.2.1 2).length = (Nd.tailT n i).length + (Nd.nb x.1 4).length + (Nd.nb x.2.1 2).length := by rw [List.length_append, z4]
      simp -implicitDefEqProofs (disch := omega) only [go_sem, e1, e4, e5, g1, decide_true]
      refine RDraw_seg (by kernel_rfl) (by kernel_rfl) 27 rfl ?_
      refine RS_det (by kernel_rfl) ?_
      repeat (first | refine ToO_step (fun Q hq => by (simp -implicitDefEqProofs (disch := omega) only [go_sem, e1, e4, e5, hc0, hc1, hc2]; exact hq)) ?_ | refine ToO_guard (by (simp -implicitDefEqProofs only [go_sem, e1, e4, e5, hc0, hc1, hc2]; first | done | fail)) (fun Q hq => by (simp -implicitDefEqProofs (disch := omega) only [go_sem, e1, e4, e5, hc0, hc1, hc2]; exact hq)) ?_ | refine ToO_skip (.inl (by (simp -implicitDefEqProofs only [go_sem, e1, e4, e5, hc0, hc1, hc2]; first | done | fail))) ?_ | refine ToO_skip (.inr (by (simp -implicitDefEqProofs only [go_sem, e1, e4, e5, hc0, hc1, hc2]; first | done | fail))) ?_)
      first | refine ToO_step (fun Q hq => by (simp -implicitDefEqProofs (disch := omega) only [go_sem, e1, e4, e5]; refine RCall_eq (rnode_num x.1 4 (by omega)) ?_; simp -implicitDefEqProofs (disch := omega) only [go_sem, e1, e4, e5]; exact hq)) ?_ | refine ToO_guard (by (simp -implicitDefEqProofs only [go_sem, e1, e4, e5]; first | done | fail)) (fun Q hq => by (simp -implicitDefEqProofs (disch := omega) only [go_sem, e1, e4, e5]; refine RCall_eq (rnode_num x.1 4 (by omega)) ?_; simp -implicitDefEqProofs (disch := omega) only [go_sem, e1, e4, e5]; exact hq)) ?_
      repeat (first | refine ToO_step (fun Q hq => by (simp -implicitDefEqProofs (disch := omega) only [go_sem, e1, e4, e5, hc0, hc1, hc2]; exact hq)) ?_ | refine ToO_guard (by (simp -implicitDefEqProofs only [go_sem, e1, e4, e5, hc0, hc1, hc2]; first | done | fail)) (fun Q hq => by (simp -implicitDefEqProofs (disch := omega) only [go_sem, e1, e4, e5, hc0, hc1, hc2]; exact hq)) ?_ | refine ToO_skip (.inl (by (simp -implicitDefEqProofs only [go_sem, e1, e4, e5, hc0, hc1, hc2]; first | done | fail))) ?_ | refine ToO_skip (.inr (by (simp -implicitDefEqProofs only [go_sem, e1, e4, e5, hc0, hc1, hc2]; first | done | fail))) ?_)
      first | refine ToO_step (fun Q hq => by (simp -implicitDefEqProofs (disch := omega) only [go_sem, e1, e4, e5]; refine RCall_eq (rnode_num x.2.1 2 (by omega)) ?_; simp -implicitDefEqProofs (disch := omega) only [go_sem, e1, e4, e5]; exact hq)) ?_ | refine ToO_guard (by (simp -implicitDefEqProofs only [go_sem, e1, e4, e5]; first | done | fail)) (fun Q hq => by (simp -implicitDefEqProofs (disch := omega) only [go_sem, e1, e4, e5]; refine RCall_eq (rnode_num x.2.1 2 (by omega)) ?_; simp -implicitDefEqProofs (disch := omega) only [go_sem, e1, e4, e5]; exact hq)) ?_
      repeat (first | refine ToO_step (fun Q hq => by (simp -implicitDefEqProofs (disch := omega) only [go_sem, e1, e4, e5, hc0, hc1, hc2]; exact hq)) ?_ | refine ToO_guard (by (simp -implicitDefEqProofs only [go_sem, e1, e4, e5, hc0, hc1, hc2]; first | done | fail)) (fun Q hq => by (simp -implicitDefEqProofs (disch := omega) only [go_sem, e1, e4, e5, hc0, hc1, hc2]; exact hq)) ?_ | refine ToO_skip (.inl (by (simp -implicitDefEqProofs only [go_sem, e1, e4, e5, hc0, hc1, hc2]; first | done | fail))) ?_ | refine ToO_skip (.inr (by (simp -implicitDefEqProofs only [go_sem, e1, e4, e5, hc0, hc1, hc2]; first | done | fail))) ?_)
      first | refine ToO_step (fun Q hq => by (simp -implicitDefEqProofs (disch := omega) only [go_sem, e1, e4, e5]; refine RCall_eq (rnode_num (x.2.2 + 1) 1 (by omega)) ?_; simp -implicitDefEqProofs (disch := omega) only [go_sem, e1, e4, e5]; exact hq)) ?_ | refine ToO_guard (by (simp -implicitDefEqProofs only [go_sem, e1, e4, e5]; first | done | fail)) (fun Q hq => by (simp -implicitDefEqProofs (disch := omega) only [go_sem, e1, e4, e5]; refine RCall_eq (rnode_num (x.2.2 + 1) 1 (by omega)) ?_; simp -implicitDefEqProofs (disch := omega) only [go_sem, e1, e4, e5]; exact hq)) ?_
      repeat (first | refine ToO_step (fun Q hq => by (simp -implicitDefEqProofs (disch := omega) only [go_sem, e1, e4, e5]; exact hq)) ?_ | refine ToO_guard (by (simp -implicitDefEqProofs only [go_sem, e1, e4, e5]; first | done | fail)) (fun Q hq => by (simp -implicitDefEqProofs (disch := omega) only [go_sem, e1, e4, e5]; exact hq)) ?_ | refine ToO_skip (.inl (by (simp -implicitDefEqProofs only [go_sem, e1, e4, e5]; first | done | fail))) ?_ | refine ToO_skip (.inr (by (simp -implicitDefEqProofs only [go_sem, e1, e4, e5]; first | done | fail))) ?_)
      refine ToO_nil ?_
      rw [hxe, ← hnext]
      simp -implicitDefEqProofs (disch := omega) only [go_sem, e1, e4, e5]
      refine hQ' _ _ _ (fun _ hs => hs) ⟨i + 1, by omega, ?_, ?_, ?_, rfl⟩ ?_
      · (first | (simp -implicitDefEqProofs (disch := omega) only [go_sem, e1, e4, e5]; done) | (simp -implicitDefEqProofs (disch := omega) only [go_sem, e1, e4, e5]; rfl))
      · (first | (simp -implicitDefEqProofs (disch := omega) only [go_sem, e1, e4, e5]; done) | (simp -implicitDefEqProofs (disch := omega) only [go_sem, e1, e4, e5]; rfl))
      · (first | (simp -implicitDefEqProofs (disch := omega) only [go_sem, e1, e4, e5]; done) | (simp -implicitDefEqProofs (disch := omega) only [go_sem, e1, e4, e5]; rfl))
      · simp -implicitDefEqProofs (disch := omega) only [go_sem, e1, e4, e5]; omega
    have g1 : ¬ (i : Int) < (n.toks.length : Int) := by omega
    have e4' : f 4 = str (Nd.tailK n 0) := by
      rw [e4]; unfold Nd.tailT Nd.tailK; rw [List.take_of_length_le (by omega)]; simp
    simp -implicitDefEqProofs (disch := omega) only [go_sem, e1, e4, e5, g1, decide_false]
    clear e4 e5 hQ' g1
    generalize hH : [Res.cells g 25 #[.bool true, .slice a1 n.toks.length c1, .slice a2 n.kids.length c2], .anchor w []] = H at *
    refine RLoop_intro (fun f h => ∃ (i : Nat), i ≤ n.kids.length ∧ f 1 = .pointer (some ⟨g, 0, none⟩) ∧ f 4 = str (Nd.tailK n i) ∧ f 6 = .int .i64 (i : Int) ∧ h = H) (fun f _ => (n.kids.length - ival (f 6)).toNat) ?_ ?_
    · exact ⟨0, by omega, by (first | (simp -implicitDefEqProofs (disch := omega) only [go_sem, e1]; done) | (simp -implicitDefEqProofs (disch := omega) only [go_sem, e1]; rfl)), by (first | (simp -implicitDefEqProofs (disch := omega) only [go_sem, e4']; done) | (simp -implicitDefEqProofs (disch := omega) only [go_sem, e4']; rfl)), by (first | (simp -implicitDefEqProofs (disch := omega) only [go_sem]; done) | (simp -implicitDefEqProofs (disch := omega) only [go_sem]; rfl)), rfl⟩
    rintro f h ⟨j, hj, q1, q4, q6, rfl⟩ Q' hQ'
    subst hH
    by_cases hil : j < n.kids.length
    · have g1 : (j : Int) < (n.kids.length : Int) := by omega
      obtain ⟨b, o, rfl, hbb, _, hc0, hc1, hc2⟩ := three_at hm.kids j hil
      have hnext := Nd.tailK_succ hil
      have hok := Nd.up_mem h2 _ (Nd.getD_mem hil)
      have htl := (Nd.tail_len hr j).2
      generalize n.kids.getD j Tok.tk0 = x at *
      obtain ⟨y1, y2, y3⟩ := Nd.okK_iff.1 hok
      have hxe : Nd.tailK n j ++ Nd.nb x.1 4 ++ Nd.nb x.2.1 4 ++ Nd.nb x.2.2 4 = Nd.tailK n j ++ Nd.kB x := by unfold Nd.kB; simp
      have z1 := Nd.nb_len x.1 4
      have z2 := Nd.nb_len x.2.1 4
      have z3 := Nd.nb_len x.2.2 4
      have z4 : (Nd.tailK n j ++ Nd.nb x.1 4).length = (Nd.tailK n j).length + (Nd.nb x.1 4).length := List.length_append
      have z5 : (Nd.tailK n j ++ Nd.nb x.1 4 ++ Nd.nb x.2.1 4).length = (Nd.tailK n j).length + (Nd.nb x.1 4).length + (Nd.nb x.2.1 4).length := by rw [List.length_append, z4]
      simp -implicitDefEqProofs (disch := omega) only [go_sem, q1, q4, q6, g1, decide_true]
      refine RDraw_seg (by kernel_rfl) (by kernel_rfl) 26 rfl ?_
      refine RS_det (by kernel_rfl) ?_
      repeat (first | refine ToO_step (fun Q hq => by (simp -implicitDefEqProofs (disch := omega) only [go_sem, q1, q4, q6, hc0, hc1, hc2]; exact hq)) ?_ | refine ToO_guard (by (simp -implicitDefEqProofs only [go_sem, q1, q4, q6, hc0, hc1, hc2]; first | done | fail)) (fun Q hq => by (simp -implicitDefEqProofs (disch := omega) only [go_sem, q1, q4, q6, hc0, hc1, hc2]; exact hq)) ?_ | refine ToO_skip (.inl (by (simp -implicitDefEqProofs only [go_sem, q1, q4, q6, hc0, hc1, hc2]; first | done | fail))) ?_ | refine ToO_skip (.inr (by (simp -implicitDefEqProofs only [go_sem, q1, q4, q6, hc0, hc1, hc2]; first | done | fail))) ?_)
      first | refine ToO_step (fun Q hq => by (simp -implicitDefEqProofs (disch := omega) only [go_sem, q1, q4, q6]; refine RCall_eq (rnode_num x.1 4 (by omega)) ?_; simp -implicitDefEqProofs (disch := omega) only [go_sem, q1, q4, q6]; exact hq)) ?_ | refine ToO_guard (by (simp -implicitDefEqProofs only [go_sem, q1, q4, q6]; first | done | fail)) (fun Q hq => by (simp -implicitDefEqProofs (disch := omega) only [go_sem, q1, q4, q6]; refine RCall_eq (rnode_num x.1 4 (by omega)) ?_; simp -implicitDefEqProofs (disch := omega) only [go_sem, q1, q4, q6]; exact hq)) ?_
      repeat (first | refine ToO_step (fun Q hq => by (simp -implicitDefEqProofs (disch := omega) only [go_sem, q1, q4, q6, hc0, hc1, hc2]; exact hq)) ?_ | refine ToO_guard (by (simp -implicitDefEqProofs only [go_sem, q1, q4, q6, hc0, hc1, hc2]; first | done | fail)) (fun Q hq => by (simp -implicitDefEqProofs (disch := omega) only [go_sem, q1, q4, q6, hc0, hc1, hc2]; exact hq)) ?_ | refine ToO_skip (.inl (by (simp -implicitDefEqProofs only [go_sem, q1, q4, q6, hc0, hc1, hc2]; first | done | fail))) ?_ | refine ToO_skip (.inr (by (simp -implicitDefEqProofs only [go_sem, q1, q4, q6, hc0, hc1, hc2]; first | done | fail))) ?_)
      first | refine ToO_step (fun Q hq => by (simp -implicitDefEqProofs (disch := omega) only [go_sem, q1, q4, q6]; refine RCall_eq (rnode_num x.2.1 4 (by omega)) ?_; simp -implicitDefEqProofs (disch := omega) only [go_sem, q1, q4, q6]; exact hq)) ?_ | refine ToO_guard (by (simp -implicitDefEqProofs only [go_sem, q1, q4, q6]; first | done | fail)) (fun Q hq => by (simp -implicitDefEqProofs (disch := omega) only [go_sem, q1, q4, q6]; refine RCall_eq (rnode_num x.2.1 4 (by omega)) ?_; simp -implicitDefEqProofs (disch := omega) only [go_sem, q1, q4, q6]; exact hq)) ?_
      repeat (first | refine ToO_step (fun Q hq => by (simp -implicitDefEqProofs (disch := omega) only [go_sem, q1, q4, q6, hc0, hc1, hc2]; exact hq)) ?_ | refine ToO_guard (by (simp -implicitDefEqProofs only [go_sem, q1, q4, q6, hc0, hc1, hc2]; first | done | fail)) (fun Q hq => by (simp -implicitDefEqProofs (disch := omega) only [go_sem, q1, q4, q6, hc0, hc1, hc2]; exact hq)) ?_ | refine ToO_skip (.inl (by (simp -implicitDefEqProofs only [go_sem, q1, q4, q6, hc0, hc1, hc2]; first | done | fail))) ?_ | refine ToO_skip (.inr (by (simp -implicitDefEqProofs only [go_sem, q1, q4, q6, hc0, hc1, hc2]; first | done | fail))) ?_)
      first | refine ToO_step (fun Q hq => by (simp -implicitDefEqProofs (disch := omega) only [go_sem, q1, q4, q6]; refine RCall_eq (rnode_num x.2.2 4 (by omega)) ?_; simp -implicitDefEqProofs (disch := omega) only [go_sem, q1, q4, q6]; exact hq)) ?_ | refine ToO_guard (by (simp -implicitDefEqProofs only [go_sem, q1, q4, q6]; first | done | fail)) (fun Q hq => by (simp -implicitDefEqProofs (disch := omega) only [go_sem, q1, q4, q6]; refine RCall_eq (rnode_num x.2.2 4 (by omega)) ?_; simp -implicitDefEqProofs (disch := omega) only [go_sem, q1, q4, q6]; exact hq)) ?_
      repeat (first | refine ToO_step (fun Q hq => by (simp -implicitDefEqProofs (disch := omega) only [go_sem, q1, q4, q6]; exact hq)) ?_ | refine ToO_guard (by (simp -implicitDefEqProofs only [go_sem, q1, q4, q6]; first | done | fail)) (fun Q hq => by (simp -implicitDefEqProofs (disch := omega) only [go_sem, q1, q4, q6]; exact hq)) ?_ | refine ToO_skip (.inl (by (simp -implicitDefEqProofs only [go_sem, q1, q4, q6]; first | done | fail))) ?_ | refine ToO_skip (.inr (by (simp -implicitDefEqProofs only [go_sem, q1, q4, q6]; first | done | fail))) ?_)
      refine ToO_nil ?_
      rw [hxe, ← hnext]
      simp -implicitDefEqProofs (disch := omega) only [go_sem, q1, q4, q6]
      refine hQ' _ _ _ (fun _ hs => hs) ⟨j + 1, by omega, ?_, ?_, ?_, rfl⟩ ?_
      · (first | (simp -implicitDefEqProofs (disch := omega) only [go_sem, q1, q4, q6]; done) | (simp -implicitDefEqProofs (disch := omega) only [go_sem, q1, q4, q6]; rfl))
      · (first | (simp -implicitDefEqProofs (disch := omega) only [go_sem, q1, q4, q6]; done) | (simp -implicitDefEqProofs (disch := omega) only [go_sem, q1, q4, q6]; rfl))
      · (first | (simp -implicitDefEqProofs (disch := omega) only [go_sem, q1, q4, q6]; done) | (simp -implicitDefEqProofs (disch := omega) only [go_sem, q1, q4, q6]; rfl))
      · simp -implicitDefEqProofs (disch := omega) only [go_sem, q1, q4, q6]; omega
    have g1 : ¬ (j : Int) < (n.kids.length : Int) := by omega
    have q4' : f 4 = str (Nd.body n) := by
      rw [q4]; unfold Nd.tailK Nd.body; rw [List.take_of_length_le (by omega)]
    have hbl := Nd.body_le hr
    have hsub : (252 : Int) - ((Nd.body n).length : Int) = ((252 - (Nd.body n).length : Nat) : Int) := by omega
    simp -implicitDefEqProofs (disch := omega) only [go_sem, q1, q4', q6, g1, hsub, decide_false]
    refine RRun_make (n := 252 - (Nd.body n).length) (zv := byte 0) bytes_sl (by rw [zero_5]; rfl) (by omega) (by omega) fun g5 hg5 => ?_
    rw [Nat.mul_one, made_bytes]
    simp only [below_cons, below_nil, under_anchor, under_cells, and_true] at hg5
    simp -implicitDefEqProofs (disch := omega) only [go_sem]
    refine RRun_str_row0 bytes_t Try.underlying9 List.length_replicate ?_
    have hrl : (List.replicate (252 - (Nd.body n).length) (0 : UInt8)).length = 252 - (Nd.body n).length := List.length_replicate
    simp -implicitDefEqProofs (disch := omega) only [go_sem, q4', hrl]
    exact hQ _ _ fun w' hs => ⟨rfl, hs.anchor (by simp)⟩
  | false =>
    simp -implicitDefEqProofs (disch := omega) only [go_sem, hlf, strV_add1]
    have hhd := hd_f hlf hsz
    rw [List.singleton_append] at hhd
    rw [hhd]
    generalize hH : [Res.cells g 25 #[.bool false, .slice a1 n.toks.length c1, .slice a2 n.kids.length c2], .anchor w []] = H at *
    refine RLoop_intro (fun f h => ∃ (i : Nat), i ≤ n.toks.length ∧ f 1 = .pointer (some ⟨g, 0, none⟩) ∧ f 4 = str (Nd.tailT n i) ∧ f 5 = .int .i64 (i : Int) ∧ h = H) (fun f _ => (n.toks.length - ival (f 5)).toNat) ?_ ?_
    · exact ⟨0, by omega, by (first | (simp -implicitDefEqProofs (disch := omega) only [go_sem]; done) | (simp -implicitDefEqProofs (disch := omega) only [go_sem]; rfl)), by (first | (simp -implicitDefEqProofs (disch := omega) only [go_sem]; done) | (simp -implicitDefEqProofs (disch := omega) only [go_sem]; rfl)), by (first | (simp -implicitDefEqProofs (disch := omega) only [go_sem]; done) | (simp -implicitDefEqProofs (disch := omega) only [go_sem]; rfl)), rfl⟩
    rintro f h ⟨i, hi, e1, e4, e5, rfl⟩ Q' hQ'
    subst hH
    by_cases hil : i < n.toks.length
    · have g1 : (i : Int) < (n.toks.length : Int) := by omega
      obtain ⟨b, o, rfl, hbb, _, hc0, hc1, hc2⟩ := three_at hm.toks i hil
      have hnext := Nd.tailT_succ hil
      have hok := Nd.up_mem h1 _ (Nd.getD_mem hil)
      have htl := (Nd.tail_len hr i).1
      generalize n.toks.getD i Tok.tk0 = x at *
      obtain ⟨y1, y2, y3⟩ := Nd.okT_iff.1 hok
      have hxe : Nd.tailT n i ++ Nd.nb x.1 4 ++ Nd.nb x.2.1 2 ++ Nd.nb (x.2.2 + 1) 1 = Nd.tailT n i ++ Nd.tB x := by unfold Nd.tB; simp
      have z1 := Nd.nb_len x.1 4
      have z2 := Nd.nb_len x.2.1 2
      have z3 := Nd.nb_len (x.2.2 + 1) 1
      have z4 : (Nd.tailT n i ++ Nd.nb x.1 4).length = (Nd.tailT n i).length + (Nd.nb x.1 4).length := List.length_append
      have z5 : (Nd.tailT n i ++ Nd.nb x.1 4 ++ Nd.nb x.2.1 2).length = (Nd.tailT n i).length + (Nd.nb x.1 4).length + (Nd.nb x.2.1 2).length := by rw [List.length_append, z4]
      simp -implicitDefEqProofs (disch := omega) only [go_sem, e1, e4, e5, g1, decide_true]
      refine RDraw_seg (by kernel_rfl) (by kernel_rfl) 27 rfl ?_
      refine RS_det (by kernel_rfl) ?_
      repeat (first | refine ToO_step (fun Q hq => by (simp -implicitDefEqProofs (disch := omega) only [go_sem, e1, e4, e5, hc0, hc1, hc2]; exact hq)) ?_ | refine ToO_guard (by (simp -implicitDefEqProofs only [go_sem, e1, e4, e5, hc0, hc1, hc2]; first | done | fail)) (fun Q hq => by (simp -implicitDefEqProofs (disch := omega) only [go_sem, e1, e4, e5, hc0, hc1, hc2]; exact hq)) ?_ | refine ToO_skip (.inl (by (simp -implicitDefEqProofs only [go_sem, e1, e4, e5, hc0, hc1, hc2]; first | done | fail))) ?_ | refine ToO_skip (.inr (by (simp -implicitDefEqProofs only [go_sem, e1, e4, e5, hc0, hc1, hc2]; first | done | fail))) ?_)
      first | refine ToO_step (fun Q hq => by (simp -implicitDefEqProofs (disch := omega) only [go_sem, e1, e4, e5]; refine RCall_eq (rnode_num x.1 4 (by omega)) ?_; simp -implicitDefEqProofs (disch := omega) only [go_sem, e1, e4, e5]; exact hq)) ?_ | refine ToO_guard (by (simp -implicitDefEqProofs only [go_sem, e1, e4, e5]; first | done | fail)) (fun Q hq => by (simp -implicitDefEqProofs (disch := omega) only [go_sem, e1, e4, e5]; refine RCall_eq (rnode_num x.1 4 (by omega)) ?_; simp -implicitDefEqProofs (disch := omega) only [go_sem, e1, e4, e5]; exact hq)) ?_
      repeat (first | refine ToO_step (fun Q hq => by (simp -implicitDefEqProofs (disch := omega) only [go_sem, e1, e4, e5, hc0, hc1, hc2]; exact hq)) ?_ | refine ToO_guard (by (simp -implicitDefEqProofs only [go_sem, e1, e4, e5, hc0, hc1, hc2]; first | done | fail)) (fun Q hq => by (simp -implicitDefEqProofs (disch := omega) only [go_sem, e1, e4, e5, hc0, hc1, hc2]; exact hq)) ?_ | refine ToO_skip (.inl (by (simp -implicitDefEqProofs only [go_sem, e1, e4, e5, hc0, hc1, hc2]; first | done | fail))) ?_ | refine ToO_skip (.inr (by (simp -implicitDefEqProofs only [go_sem, e1, e4, e5, hc0, hc1, hc2]; first | done | fail))) ?_)
      first | refine ToO_step (fun Q hq => by (simp -implicitDefEqProofs (disch := omega) only [go_sem, e1, e4, e5]; refine RCall_eq (rnode_num x.2.1 2 (by omega)) ?_; simp -implicitDefEqProofs (disch := omega) only [go_sem, e1, e4, e5]; exact hq)) ?_ | refine ToO_guard (by (simp -implicitDefEqProofs only [go_sem, e1, e4, e5]; first | done | fail)) (fun Q hq => by (simp -implicitDefEqProofs (disch := omega) only [go_sem, e1, e4, e5]; refine RCall_eq (rnode_num x.2.1 2 (by omega)) ?_; simp -implicitDefEqProofs (disch := omega) only [go_sem, e1, e4, e5]; exact hq)) ?_
      repeat (first | refine ToO_step (fun Q hq => by (simp -implicitDefEqProofs (disch := omega) only [go_sem, e1, e4, e5, hc0, hc1, hc2]; exact hq)) ?_ | refine ToO_guard (by (simp -implicitDefEqProofs only [go_sem, e1, e4, e5, hc0, hc1, hc2]; first | done | fail)) (fun Q hq => by (simp -implicitDefEqProofs (disch := omega) only [go_sem, e1, e4, e5, hc0, hc1, hc2]; exact hq)) ?_ | refine ToO_skip (.inl (by (simp -implicitDefEqProofs only [go_sem, e1, e4, e5, hc0, hc1, hc2]; first | done | fail))) ?_ | refine ToO_skip (.inr (by (simp -implicitDefEqProofs only [go_sem, e1, e4, e5, hc0, hc1, hc2]; first | done | fail))) ?_)
      first | refine ToO_step (fun Q hq => by (simp -implicitDefEqProofs (disch := omega) only [go_sem, e1, e4, e5]; refine RCall_eq (rnode_num (x.2.2 + 1) 1 (by omega)) ?_; simp -implicitDefEqProofs (disch := omega) only [go_sem, e1, e4, e5]; exact hq)) ?_ | refine ToO_guard (by (simp -implicitDefEqProofs only [go_sem, e1, e4, e5]; first | done | fail)) (fun Q hq => by (simp -implicitDefEqProofs (disch := omega) only [go_sem, e1, e4, e5]; refine RCall_eq (rnode_num (x.2.2 + 1) 1 (by omega)) ?_; simp -implicitDefEqProofs (disch := omega) only [go_sem, e1, e4, e5]; exact hq)) ?_
      repeat (first | refine ToO_step (fun Q hq => by (simp -implicitDefEqProofs (disch := omega) only [go_sem, e1, e4, e5]; exact hq)) ?_ | refine ToO_guard (by (simp -implicitDefEqProofs only [go_sem, e1, e4, e5]; first | done | fail)) (fun Q hq => by (simp -implicitDefEqProofs (disch := omega) only [go_sem, e1, e4, e5]; exact hq)) ?_ | refine ToO_skip (.inl (by (simp -implicitDefEqProofs only [go_sem, e1, e4, e5]; first | done | fail))) ?_ | refine ToO_skip (.inr (by (simp -implicitDefEqProofs only [go_sem, e1, e4, e5]; first | done | fail))) ?_)
      refine ToO_nil ?_
      rw [hxe, ← hnext]
      simp -implicitDefEqProofs (disch := omega) only [go_sem, e1, e4, e5]
      refine hQ' _ _ _ (fun _ hs => hs) ⟨i + 1, by omega, ?_, ?_, ?_, rfl⟩ ?_
      · (first | (simp -implicitDefEqProofs (disch := omega) only [go_sem, e1, e4, e5]; done) | (simp -implicitDefEqProofs (disch := omega) only [go_sem, e1, e4, e5]; rfl))
      · (first | (simp -implicitDefEqProofs (disch := omega) only [go_sem, e1, e4, e5]; done) | (simp -implicitDefEqProofs (disch := omega) only [go_sem, e1, e4, e5]; rfl))
      · (first | (simp -implicitDefEqProofs (disch := omega) only [go_sem, e1, e4, e5]; done) | (simp -implicitDefEqProofs (disch := omega) only [go_sem, e1, e4, e5]; rfl))
      · simp -implicitDefEqProofs (disch := omega) only [go_sem, e1, e4, e5]; omega
    have g1 : ¬ (i : Int) < (n.toks.length : Int) := by omega
    have e4' : f 4 = str (Nd.tailK n 0) := by
      rw [e4]; unfold Nd.tailT Nd.tailK; rw [List.take_of_length_le (by omega)]; simp
    simp -implicitDefEqProofs (disch := omega) only [go_sem, e1, e4, e5, g1, decide_false]
    clear e4 e5 hQ' g1
    generalize hH : [Res.cells g 25 #[.bool false, .slice a1 n.toks.length c1, .slice a2 n.kids.length c2], .anchor w []] = H at *
    refine RLoop_intro (fun f h => ∃ (i : Nat), i ≤ n.kids.length ∧ f 1 = .pointer (some ⟨g, 0, none⟩) ∧ f 4 = str (Nd.tailK n i) ∧ f 6 = .int .i64 (i : Int) ∧ h = H) (fun f _ => (n.kids.length - ival (f 6)).toNat) ?_ ?_
    · exact ⟨0, by omega, by (first | (simp -implicitDefEqProofs (disch := omega) only [go_sem, e1]; done) | (simp -implicitDefEqProofs (disch := omega) only [go_sem, e1]; rfl)), by (first | (simp -implicitDefEqProofs (disch := omega) only [go_sem, e4']; done) | (simp -implicitDefEqProofs (disch := omega) only [go_sem, e4']; rfl)), by (first | (simp -implicitDefEqProofs (disch := omega) only [go_sem]; done) | (simp -implicitDefEqProofs (disch := omega) only [go_sem]; rfl)), rfl⟩
    rintro f h ⟨j, hj, q1, q4, q6, rfl⟩ Q' hQ'
    subst hH
    by_cases hil : j < n.kids.length
    · have g1 : (j : Int) < (n.kids.length : Int) := by omega
      obtain ⟨b, o, rfl, hbb, _, hc0, hc1, hc2⟩ := three_at hm.kids j hil
      have hnext := Nd.tailK_succ hil
      have hok := Nd.up_mem h2 _ (Nd.getD_mem hil)
      have htl := (Nd.tail_len hr j).2
      generalize n.kids.getD j Tok.tk0 = x at *
      obtain ⟨y1, y2, y3⟩ := Nd.okK_iff.1 hok
      have hxe : Nd.tailK n j ++ Nd.nb x.1 4 ++ Nd.nb x.2.1 4 ++ Nd.nb x.2.2 4 = Nd.tailK n j ++ Nd.kB x := by unfold Nd.kB; simp
      have z1 := Nd.nb_len x.1 4
      have z2 := Nd.nb_len x.2.1 4
      have z3 := Nd.nb_len x.2.2 4
      have z4 : (Nd.tailK n j ++ Nd.nb x.1 4).length = (Nd.tailK n j).length + (Nd.nb x.1 4).length := List.length_append
      have z5 : (Nd.tailK n j ++ Nd.nb x.1 4 ++ Nd.nb x.2.1 4).length = (Nd.tailK n j).length + (Nd.nb x.1 4).length + (Nd.nb x.2.1 4).length := by rw [List.length_append, z4]
      simp -implicitDefEqProofs (disch := omega) only [go_sem, q1, q4, q6, g1, decide_true]
      refine RDraw_seg (by kernel_rfl) (by kernel_rfl) 26 rfl ?_
      refine RS_det (by kernel_rfl) ?_
      repeat (first | refine ToO_step (fun Q hq => by (simp -implicitDefEqProofs (disch := omega) only [go_sem, q1, q4, q6, hc0, hc1, hc2]; exact hq)) ?_ | refine ToO_guard (by (simp -implicitDefEqProofs only [go_sem, q1, q4, q6, hc0, hc1, hc2]; first | done | fail)) (fun Q hq => by (simp -implicitDefEqProofs (disch := omega) only [go_sem, q1, q4, q6, hc0, hc1, hc2]; exact hq)) ?_ | refine ToO_skip (.inl (by (simp -implicitDefEqProofs only [go_sem, q1, q4, q6, hc0, hc1, hc2]; first | done | fail))) ?_ | refine ToO_skip (.inr (by (simp -implicitDefEqProofs only [go_sem, q1, q4, q6, hc0, hc1, hc2]; first | done | fail))) ?_)
      first | refine ToO_step (fun Q hq => by (simp -implicitDefEqProofs (disch := omega) only [go_sem, q1, q4, q6]; refine RCall_eq (rnode_num x.1 4 (by omega)) ?_; simp -implicitDefEqProofs (disch := omega) only [go_sem, q1, q4, q6]; exact hq)) ?_ | refine ToO_guard (by (simp -implicitDefEqProofs only [go_sem, q1, q4, q6]; first | done | fail)) (fun Q hq => by (simp -implicitDefEqProofs (disch := omega) only [go_sem, q1, q4, q6]; refine RCall_eq (rnode_num x.1 4 (by omega)) ?_; simp -implicitDefEqProofs (disch := omega) only [go_sem, q1, q4, q6]; exact hq)) ?_
      repeat (first | refine ToO_step (fun Q hq => by (simp -implicitDefEqProofs (disch := omega) only [go_sem, q1, q4, q6, hc0, hc1, hc2]; exact hq)) ?_ | refine ToO_guard (by (simp -implicitDefEqProofs only [go_sem, q1, q4, q6, hc0, hc1, hc2]; first | done | fail)) (fun Q hq => by (simp -implicitDefEqProofs (disch := omega) only [go_sem, q1, q4, q6, hc0, hc1, hc2]; exact hq)) ?_ | refine ToO_skip (.inl (by (simp -implicitDefEqProofs only [go_sem, q1, q4, q6, hc0, hc1, hc2]; first | done | fail))) ?_ | refine ToO_skip (.inr (by (simp -implicitDefEqProofs only [go_sem, q1, q4, q6, hc0, hc1, hc2]; first | done | fail))) ?_)
      first | refine ToO_step (fun Q hq => by (simp -implicitDefEqProofs (disch := omega) only [go_sem, q1, q4, q6]; refine RCall_eq (rnode_num x.2.1 4 (by omega)) ?_; simp -implicitDefEqProofs (disch := omega) only [go_sem, q1, q4, q6]; exact hq)) ?_ | refine ToO_guard (by (simp -implicitDefEqProofs only [go_sem, q1, q4, q6]; first | done | fail)) (fun Q hq => by (simp -implicitDefEqProofs (disch := omega) only [go_sem, q1, q4, q6]; refine RCall_eq (rnode_num x.2.1 4 (by omega)) ?_; simp -implicitDefEqProofs (disch := omega) only [go_sem, q1, q4, q6]; exact hq)) ?_
      repeat (first | refine ToO_step (fun Q hq => by (simp -implicitDefEqProofs (disch := omega) only [go_sem, q1, q4, q6, hc0, hc1, hc2]; exact hq)) ?_ | refine ToO_guard (by (simp -implicitDefEqProofs only [go_sem, q1, q4, q6, hc0, hc1, hc2]; first | done | fail)) (fun Q hq => by (simp -implicitDefEqProofs (disch := omega) only [go_sem, q1, q4, q6, hc0, hc1, hc2]; exact hq)) ?_ | refine ToO_skip (.inl (by (simp -implicitDefEqProofs only [go_sem, q1, q4, q6, hc0, hc1, hc2]; first | done | fail))) ?_ | refine ToO_skip (.inr (by (simp -implicitDefEqProofs only [go_sem, q1, q4, q6, hc0, hc1, hc2]; first | done | fail))) ?_)
      first | refine ToO_step (fun Q hq => by (simp -implicitDefEqProofs (disch := omega) only [go_sem, q1, q4, q6]; refine RCall_eq (rnode_num x.2.2 4 (by omega)) ?_; simp -implicitDefEqProofs (disch := omega) only [go_sem, q1, q4, q6]; exact hq)) ?_ | refine ToO_guard (by (simp -implicitDefEqProofs only [go_sem, q1, q4, q6]; first | done | fail)) (fun Q hq => by (simp -implicitDefEqProofs (disch := omega) only [go_sem, q1, q4, q6]; refine RCall_eq (rnode_num x.2.2 4 (by omega)) ?_; simp -implicitDefEqProofs (disch := omega) only [go_sem, q1, q4, q6]; exact hq)) ?_
      repeat (first | refine ToO_step (fun Q hq => by (simp -implicitDefEqProofs (disch := omega) only [go_sem, q1, q4, q6]; exact hq)) ?_ | refine ToO_guard (by (simp -implicitDefEqProofs only [go_sem, q1, q4, q6]; first | done | fail)) (fun Q hq => by (simp -implicitDefEqProofs (disch := omega) only [go_sem, q1, q4, q6]; exact hq)) ?_ | refine ToO_skip (.inl (by (simp -implicitDefEqProofs only [go_sem, q1, q4, q6]; first | done | fail))) ?_ | refine ToO_skip (.inr (by (simp -implicitDefEqProofs only [go_sem, q1, q4, q6]; first | done | fail))) ?_)
      refine ToO_nil ?_
      rw [hxe, ← hnext]
      simp -implicitDefEqProofs (disch := omega) only [go_sem, q1, q4, q6]
      refine hQ' _ _ _ (fun _ hs => hs) ⟨j + 1, by omega, ?_, ?_, ?_, rfl⟩ ?_
      · (first | (simp -implicitDefEqProofs (disch := omega) only [go_sem, q1, q4, q6]; done) | (simp -implicitDefEqProofs (disch := omega) only [go_sem, q1, q4, q6]; rfl))
      · (first | (simp -implicitDefEqProofs (disch := omega) only [go_sem, q1, q4, q6]; done) | (simp -implicitDefEqProofs (disch := omega) only [go_sem, q1, q4, q6]; rfl))
      · (first | (simp -implicitDefEqProofs (disch := omega) only [go_sem, q1, q4, q6]; done) | (simp -implicitDefEqProofs (disch := omega) only [go_sem, q1, q4, q6]; rfl))
      · simp -implicitDefEqProofs (disch := omega) only [go_sem, q1, q4, q6]; omega
    have g1 : ¬ (j : Int) < (n.kids.length : Int) := by omega
    have q4' : f 4 = str (Nd.body n) := by
      rw [q4]; unfold Nd.tailK Nd.body; rw [List.take_of_length_le (by omega)]
    have hbl := Nd.body_le hr
    have hsub : (252 : Int) - ((Nd.body n).length : Int) = ((252 - (Nd.body n).length : Nat) : Int) := by omega
    simp -implicitDefEqProofs (disch := omega) only [go_sem, q1, q4', q6, g1, hsub, decide_false]
    refine RRun_make (n := 252 - (Nd.body n).length) (zv := byte 0) bytes_sl (by rw [zero_5]; rfl) (by omega) (by omega) fun g5 hg5 => ?_
    rw [Nat.mul_one, made_bytes]
    simp only [below_cons, below_nil, under_anchor, under_cells, and_true] at hg5
    simp -implicitDefEqProofs (disch := omega) only [go_sem]
    refine RRun_str_row0 bytes_t Try.underlying9 List.length_replicate ?_
    have hrl : (List.replicate (252 - (Nd.body n).length) (0 : UInt8)).length = 252 - (Nd.body n).length := List.length_replicate
    simp -implicitDefEqProofs (disch := omega) only [go_sem, q4', hrl]
    exact hQ _ _ fun w' hs => ⟨rfl, hs.anchor (by simp)⟩
end Go.Proofs.Ytlmbebnpnnkhmaa
