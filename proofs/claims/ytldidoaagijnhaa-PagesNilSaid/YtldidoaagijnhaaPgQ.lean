/- pages' laws: the walks: no file; any text opened. -/
import Derived.Test.YtldidoaagijnhaaPgL
namespace Go.Proofs.Ytldidoaagijnhaa
set_option linter.unusedSimpArgs false
set_option linter.unusedVariables false
open H
set_option maxRecDepth 20000 in
set_option maxHeartbeats 4000000 in
theorem law_pnil (i : Int) (s : List UInt8) (w : World) : Does Try.prog 9 #[.int .i64 i, str s] w fun v w' => v = .bool true ∧ Ext [] w w' := by
  refine does (args := [.int .i64 i, str s]) Try.func9 rfl (by kernel_rfl) (by kernel_rfl) rfl ent_9 (Sat.start w []) ?_; intro QV hQ
  by_cases hl : s.length ≤ 1000
  rotate_left
  · have k : decide ((1000 : Int) < (s.length : Int)) = true := decide_eq_true (by omega)
    simp -implicitDefEqProofs (disch := omega) only [go_sem, k]
    refine RCall_eq pages_known ?_
    simp -implicitDefEqProofs (disch := omega) only [go_sem]
    exact hQ _ _ fun w' hs => ⟨rfl, hs.anchor (by simp)⟩
  have k : decide ((1000 : Int) < (s.length : Int)) = false := decide_eq_false (by omega)
  simp -implicitDefEqProofs (disch := omega) only [go_sem, k]
  refine RNew_intro fun g hg => ?_
  have hno : ∀ w1, Sat w1 [.cells g 62 #[.slice none 0 0, str [], .int .i64 0], .anchor w []] → Pg.No w1 (.pointer (some ⟨g, 0, none⟩)) := fun w1 hs => Pg.No.zero (Pg.at_of hs (List.mem_cons_self ..))
  simp -implicitDefEqProofs (disch := omega) only [go_sem]
  refine RCall_eqS (fun w1 hs => no_add (.pointer none) s w1 (Pg.No.nil w1)) ?_
  simp -implicitDefEqProofs (disch := omega) only [go_sem, decide_true, Option.isNone_none, List.append_eq]
  refine RCall_eqS (fun w1 hs => no_add _ s w1 (hno w1 hs)) ?_
  simp -implicitDefEqProofs (disch := omega) only [go_sem, decide_true, Option.isNone_none, List.append_eq]
  refine RCall_eqS (fun w1 hs => no_read (.pointer none) i w1 (Pg.No.nil w1)) ?_
  simp -implicitDefEqProofs (disch := omega) only [go_sem, decide_true, Option.isNone_none, List.append_eq]
  refine RCall_eqS (fun w1 hs => no_write (.pointer none) i s w1 (Pg.No.nil w1)) ?_
  simp -implicitDefEqProofs (disch := omega) only [go_sem, decide_true, Option.isNone_none, List.append_eq]
  refine RCall_eqS (fun w1 hs => no_sethead (.pointer none) s w1 (Pg.No.nil w1)) ?_
  simp -implicitDefEqProofs (disch := omega) only [go_sem, decide_true, Option.isNone_none, List.append_eq]
  refine RCall_eqS (fun w1 hs => no_sethead _ s w1 (hno w1 hs)) ?_
  simp -implicitDefEqProofs (disch := omega) only [go_sem, decide_true, Option.isNone_none, List.append_eq]
  refine RCall_eqS (fun w1 hs => no_head (.pointer none) w1 (Pg.No.nil w1)) ?_
  simp -implicitDefEqProofs (disch := omega) only [go_sem, decide_true, Option.isNone_none, List.append_eq]
  refine RCall_eqS (fun w1 hs => no_pages (.pointer none) w1 (Pg.No.nil w1)) ?_
  simp -implicitDefEqProofs (disch := omega) only [go_sem, decide_true, Option.isNone_none, List.append_eq]
  refine RCall_eqS (fun w1 hs => no_pages _ w1 (hno w1 hs)) ?_
  simp -implicitDefEqProofs (disch := omega) only [go_sem, decide_true, Option.isNone_none, List.append_eq]
  refine RCall_eqS (fun w1 hs => no_reads (.pointer none) w1 (Pg.No.nil w1)) ?_
  simp -implicitDefEqProofs (disch := omega) only [go_sem, decide_true, Option.isNone_none, List.append_eq]
  refine RCall_eqS (fun w1 hs => no_text (.pointer none) w1 (Pg.No.nil w1)) ?_
  simp -implicitDefEqProofs (disch := omega) only [go_sem, decide_true, Option.isNone_none, List.append_eq]
  refine RCall_eqS (fun w1 hs => no_text _ w1 (hno w1 hs)) ?_
  simp -implicitDefEqProofs (disch := omega) only [go_sem, decide_true, Option.isNone_none, List.append_eq]
  refine RCall_eqS (fun w1 hs => no_copy (.pointer none) w1 (Pg.No.nil w1)) ?_
  simp -implicitDefEqProofs (disch := omega) only [go_sem, decide_true, Option.isNone_none, List.append_eq]
  refine RCall_eqS (fun w1 hs => no_copy _ w1 (hno w1 hs)) ?_
  simp -implicitDefEqProofs (disch := omega) only [go_sem, decide_true, Option.isNone_none, List.append_eq]
  refine RCall_eq pages_known ?_
  simp -implicitDefEqProofs (disch := omega) only [go_sem]
  exact hQ _ _ fun w' hs => ⟨rfl, hs.anchor (by simp)⟩
theorem mk_len {s : List UInt8} (h : 256 ≤ s.length) : (Pg.pg (s.take 252) ++ s.drop 256).length = s.length := by
  rw [List.length_append, Pg.pg_len (by rw [List.length_take]; omega), List.length_drop]; omega
theorem opn_len {s : List UInt8} (h : (Pg.opn s).2 = 0) : 256 ≤ s.length := by
  by_cases hl : s.length < 256
  · unfold Pg.opn at h
    rw [if_pos hl] at h
    exact absurd h (by decide)
  · omega
set_option maxRecDepth 20000 in
set_option maxHeartbeats 8000000 in
theorem law_popens (s : List UInt8) (b : Bool) (w : World) : Does Try.prog 4 #[str s, .bool b] w fun v w' => v = .bool true ∧ Ext [] w w' := by
  refine does (args := [str s, .bool b]) Try.func4 rfl (by kernel_rfl) (by kernel_rfl) rfl ent_4 (Sat.start w []) ?_; intro QV hQ
  by_cases hl : s.length ≤ 3000
  rotate_left
  · have k : decide ((3000 : Int) < (s.length : Int)) = true := decide_eq_true (by omega)
    simp -implicitDefEqProofs (disch := omega) only [go_sem, k]
    refine RCall_eq pages_known ?_
    simp -implicitDefEqProofs (disch := omega) only [go_sem]
    exact hQ _ _ fun w' hs => ⟨rfl, hs.anchor (by simp)⟩
  have k : decide ((3000 : Int) < (s.length : Int)) = false := decide_eq_false (by omega)
  simp -implicitDefEqProofs (disch := omega) only [go_sem, k]

  cases b with
  | false =>
    simp -implicitDefEqProofs (disch := omega) only [go_sem]
    refine RCall_newS (fun w1 hs => pages_open s (by omega) w1) ?_
    rintro v rs (⟨h0, go, gob, spo, ngo, rfl, rfl⟩ | ⟨h0, rfl, rfl⟩) _
    · have h256 := opn_len h0
      obtain ⟨q, hqq⟩ : ∃ q, q = (s).length / 256 := ⟨_, rfl⟩
      have hquo : ((s).length : Int).tdiv 256 = (q : Int) := by rw [Int.tdiv_eq_ediv_of_nonneg (by omega), hqq]; rfl
      simp -implicitDefEqProofs (disch := omega) only [go_sem]
      refine RCall_newS (fun w1 hs => pages_ropen s (by omega) w1) ?_
      rintro _ _ ⟨g, hd, pv, nv, rest, rfl, rfl, hhd⟩ _
      rw [h0]
      have hhd' := hhd h0
      subst hhd'
      simp -implicitDefEqProofs (disch := omega) only [go_sem, decide_true, Option.isNone_some, beq_self_eq_true]
      refine RDraw_seg (by kernel_rfl) (by kernel_rfl) 34 rfl ?_
      change RS _ _ [0, 1, 2, 3, 4, 5, 6, 7, 8, 9, 10, 11, 12, 13, 14, 15, 16, 17, 18, 19, 20, 21, 22, 23, 24, 25, 26, 27, 28, 29, 30, 31, 32, 33] _ _ _
      refine RS_det (by kernel_rfl) ?_
      repeat (first | refine ToO_step (fun Q hq => by (simp -implicitDefEqProofs (disch := omega) only [go_sem, Option.isNone_some]; exact hq)) ?_ | refine ToO_guard (by (simp -implicitDefEqProofs only [go_sem, Option.isNone_some]; first | done | fail)) (fun Q hq => by (simp -implicitDefEqProofs (disch := omega) only [go_sem, Option.isNone_some]; exact hq)) ?_ | refine ToO_skip (.inl (by (simp -implicitDefEqProofs only [go_sem, Option.isNone_some]; first | done | fail))) ?_ | refine ToO_skip (.inr (by (simp -implicitDefEqProofs only [go_sem, Option.isNone_some]; first | done | fail))) ?_)
      first | refine ToO_step (fun Q hq => by (simp -implicitDefEqProofs (disch := omega) only [go_sem]; refine RCall_eqS (fun w1 hs => pages_text go gob (s) ((s).length + spo.length) h256 (Pg.opn (s)).1 0 w1 (Pg.at_of hs (by simp)) (Pg.has_of (t := 5) (sp := spo) hs (by simp))) ?_; simp -implicitDefEqProofs (disch := omega) only [go_sem]; exact hq)) ?_ | refine ToO_guard (by (simp -implicitDefEqProofs only [go_sem]; first | done | fail)) (fun Q hq => by (simp -implicitDefEqProofs (disch := omega) only [go_sem]; refine RCall_eqS (fun w1 hs => pages_text go gob (s) ((s).length + spo.length) h256 (Pg.opn (s)).1 0 w1 (Pg.at_of hs (by simp)) (Pg.has_of (t := 5) (sp := spo) hs (by simp))) ?_; simp -implicitDefEqProofs (disch := omega) only [go_sem]; exact hq)) ?_
      repeat (first | refine ToO_step (fun Q hq => by (simp -implicitDefEqProofs (disch := omega) only [go_sem, decide_true]; exact hq)) ?_ | refine ToO_guard (by (simp -implicitDefEqProofs only [go_sem, decide_true]; first | done | fail)) (fun Q hq => by (simp -implicitDefEqProofs (disch := omega) only [go_sem, decide_true]; exact hq)) ?_ | refine ToO_skip (.inl (by (simp -implicitDefEqProofs only [go_sem, decide_true]; first | done | fail))) ?_ | refine ToO_skip (.inr (by (simp -implicitDefEqProofs only [go_sem, decide_true]; first | done | fail))) ?_)
      first | refine ToO_step (fun Q hq => by (simp -implicitDefEqProofs (disch := omega) only [go_sem]; refine RCall_eqS (fun w1 hs => pages_head go (some ⟨gob, 0, none⟩) (s).length ((s).length + spo.length) h256 (Pg.opn (s)).1 0 w1 (Pg.at_of hs (by simp))) ?_; simp -implicitDefEqProofs (disch := omega) only [go_sem]; exact hq)) ?_ | refine ToO_guard (by (simp -implicitDefEqProofs only [go_sem]; first | done | fail)) (fun Q hq => by (simp -implicitDefEqProofs (disch := omega) only [go_sem]; refine RCall_eqS (fun w1 hs => pages_head go (some ⟨gob, 0, none⟩) (s).length ((s).length + spo.length) h256 (Pg.opn (s)).1 0 w1 (Pg.at_of hs (by simp))) ?_; simp -implicitDefEqProofs (disch := omega) only [go_sem]; exact hq)) ?_
      repeat (first | refine ToO_step (fun Q hq => by (simp -implicitDefEqProofs (disch := omega) only [go_sem, decide_true]; exact hq)) ?_ | refine ToO_guard (by (simp -implicitDefEqProofs only [go_sem, decide_true]; first | done | fail)) (fun Q hq => by (simp -implicitDefEqProofs (disch := omega) only [go_sem, decide_true]; exact hq)) ?_ | refine ToO_skip (.inl (by (simp -implicitDefEqProofs only [go_sem, decide_true]; first | done | fail))) ?_ | refine ToO_skip (.inr (by (simp -implicitDefEqProofs only [go_sem, decide_true]; first | done | fail))) ?_)
      first | refine ToO_step (fun Q hq => by (simp -implicitDefEqProofs (disch := omega) only [go_sem]; refine RCall_eqS (fun w1 hs => by have := pages_count go (some ⟨gob, 0, none⟩) (s).length ((s).length + spo.length) h256 (by omega) (Pg.opn (s)).1 0 w1 (Pg.at_of hs (by simp)); rw [← hqq] at this; exact this) ?_; simp -implicitDefEqProofs (disch := omega) only [go_sem]; exact hq)) ?_ | refine ToO_guard (by (simp -implicitDefEqProofs only [go_sem]; first | done | fail)) (fun Q hq => by (simp -implicitDefEqProofs (disch := omega) only [go_sem]; refine RCall_eqS (fun w1 hs => by have := pages_count go (some ⟨gob, 0, none⟩) (s).length ((s).length + spo.length) h256 (by omega) (Pg.opn (s)).1 0 w1 (Pg.at_of hs (by simp)); rw [← hqq] at this; exact this) ?_; simp -implicitDefEqProofs (disch := omega) only [go_sem]; exact hq)) ?_
      repeat (first | refine ToO_step (fun Q hq => by (simp -implicitDefEqProofs (disch := omega) only [go_sem, decide_true, hquo]; exact hq)) ?_ | refine ToO_guard (by (simp -implicitDefEqProofs only [go_sem, decide_true, hquo]; first | done | fail)) (fun Q hq => by (simp -implicitDefEqProofs (disch := omega) only [go_sem, decide_true, hquo]; exact hq)) ?_ | refine ToO_skip (.inl (by (simp -implicitDefEqProofs only [go_sem, decide_true, hquo]; first | done | fail))) ?_ | refine ToO_skip (.inr (by (simp -implicitDefEqProofs only [go_sem, decide_true, hquo]; first | done | fail))) ?_)
      first | refine ToO_step (fun Q hq => by (simp -implicitDefEqProofs (disch := omega) only [go_sem]; refine RCall_eqS (fun w1 hs => pages_reads go (some ⟨gob, 0, none⟩) (s).length ((s).length + spo.length) h256 (Pg.opn (s)).1 0 w1 (Pg.at_of hs (by simp))) ?_; simp -implicitDefEqProofs (disch := omega) only [go_sem]; exact hq)) ?_ | refine ToO_guard (by (simp -implicitDefEqProofs only [go_sem]; first | done | fail)) (fun Q hq => by (simp -implicitDefEqProofs (disch := omega) only [go_sem]; refine RCall_eqS (fun w1 hs => pages_reads go (some ⟨gob, 0, none⟩) (s).length ((s).length + spo.length) h256 (Pg.opn (s)).1 0 w1 (Pg.at_of hs (by simp))) ?_; simp -implicitDefEqProofs (disch := omega) only [go_sem]; exact hq)) ?_
      repeat (first | refine ToO_step (fun Q hq => by (simp -implicitDefEqProofs (disch := omega) only [go_sem, decide_true]; exact hq)) ?_ | refine ToO_guard (by (simp -implicitDefEqProofs only [go_sem, decide_true]; first | done | fail)) (fun Q hq => by (simp -implicitDefEqProofs (disch := omega) only [go_sem, decide_true]; exact hq)) ?_ | refine ToO_skip (.inl (by (simp -implicitDefEqProofs only [go_sem, decide_true]; first | done | fail))) ?_ | refine ToO_skip (.inr (by (simp -implicitDefEqProofs only [go_sem, decide_true]; first | done | fail))) ?_)
      first | refine ToO_step (fun Q hq => by (simp -implicitDefEqProofs (disch := omega) only [go_sem]; refine RCall_eq (pages_known) ?_; simp -implicitDefEqProofs (disch := omega) only [go_sem]; exact hq)) ?_ | refine ToO_guard (by (simp -implicitDefEqProofs only [go_sem]; first | done | fail)) (fun Q hq => by (simp -implicitDefEqProofs (disch := omega) only [go_sem]; refine RCall_eq (pages_known) ?_; simp -implicitDefEqProofs (disch := omega) only [go_sem]; exact hq)) ?_
      repeat (first | refine ToO_step (fun Q hq => by (simp -implicitDefEqProofs (disch := omega) only [go_sem]; exact hq)) ?_ | refine ToO_guard (by (simp -implicitDefEqProofs only [go_sem]; first | done | fail)) (fun Q hq => by (simp -implicitDefEqProofs (disch := omega) only [go_sem]; exact hq)) ?_ | refine ToO_skip (.inl (by (simp -implicitDefEqProofs only [go_sem]; first | done | fail))) ?_ | refine ToO_skip (.inr (by (simp -implicitDefEqProofs only [go_sem]; first | done | fail))) ?_)
      refine ToO_nil ?_
      simp -implicitDefEqProofs (disch := omega) only [go_sem]
      exact hQ _ _ fun w' hs => ⟨rfl, hs.anchor (by simp)⟩
    · simp -implicitDefEqProofs (disch := omega) only [go_sem]
      refine RCall_newS (fun w1 hs => pages_ropen s (by omega) w1) ?_
      rintro _ _ ⟨g, hd, pv, nv, rest, rfl, rfl, _⟩ _
      simp -implicitDefEqProofs (disch := omega) only [go_sem, decide_true, decide_eq_false h0, Option.isNone_none, beq_self_eq_true]
      refine RDraw_seg (by kernel_rfl) (by kernel_rfl) 34 rfl ?_
      change RS _ _ [0, 1, 2, 3, 4, 5, 6, 7, 8, 9, 10, 11, 12, 13, 14, 15, 16, 17, 18, 19, 20, 21, 22, 23, 24, 25, 26, 27, 28, 29, 30, 31, 32, 33] _ _ _
      refine RS_det (by kernel_rfl) ?_
      repeat (first | refine ToO_step (fun Q hq => by (simp -implicitDefEqProofs (disch := omega) only [go_sem, Option.isNone_none]; exact hq)) ?_ | refine ToO_guard (by (simp -implicitDefEqProofs only [go_sem, Option.isNone_none]; first | done | fail)) (fun Q hq => by (simp -implicitDefEqProofs (disch := omega) only [go_sem, Option.isNone_none]; exact hq)) ?_ | refine ToO_skip (.inl (by (simp -implicitDefEqProofs only [go_sem, Option.isNone_none]; first | done | fail))) ?_ | refine ToO_skip (.inr (by (simp -implicitDefEqProofs only [go_sem, Option.isNone_none]; first | done | fail))) ?_)
      first | refine ToO_step (fun Q hq => by (simp -implicitDefEqProofs (disch := omega) only [go_sem]; refine RCall_eq (pages_known) ?_; simp -implicitDefEqProofs (disch := omega) only [go_sem]; exact hq)) ?_ | refine ToO_guard (by (simp -implicitDefEqProofs only [go_sem]; first | done | fail)) (fun Q hq => by (simp -implicitDefEqProofs (disch := omega) only [go_sem]; refine RCall_eq (pages_known) ?_; simp -implicitDefEqProofs (disch := omega) only [go_sem]; exact hq)) ?_
      repeat (first | refine ToO_step (fun Q hq => by (simp -implicitDefEqProofs (disch := omega) only [go_sem]; exact hq)) ?_ | refine ToO_guard (by (simp -implicitDefEqProofs only [go_sem]; first | done | fail)) (fun Q hq => by (simp -implicitDefEqProofs (disch := omega) only [go_sem]; exact hq)) ?_ | refine ToO_skip (.inl (by (simp -implicitDefEqProofs only [go_sem]; first | done | fail))) ?_ | refine ToO_skip (.inr (by (simp -implicitDefEqProofs only [go_sem]; first | done | fail))) ?_)
      refine ToO_nil ?_
      simp -implicitDefEqProofs (disch := omega) only [go_sem]
      exact hQ _ _ fun w' hs => ⟨rfl, hs.anchor (by simp)⟩
  | true =>
    by_cases h256s : 256 ≤ s.length
    rotate_left
    · have k2 : decide ((256 : Int) ≤ (s.length : Int)) = false := decide_eq_false (by omega)
      simp -implicitDefEqProofs (disch := omega) only [go_sem, k2]
      refine RCall_newS (fun w1 hs => pages_open s (by omega) w1) ?_
      rintro v rs (⟨h0, go, gob, spo, ngo, rfl, rfl⟩ | ⟨h0, rfl, rfl⟩) _
      · exact absurd (opn_len h0) h256s
      · simp -implicitDefEqProofs (disch := omega) only [go_sem]
        refine RCall_newS (fun w1 hs => pages_ropen s (by omega) w1) ?_
        rintro _ _ ⟨g, hd, pv, nv, rest, rfl, rfl, _⟩ _
        simp -implicitDefEqProofs (disch := omega) only [go_sem, decide_true, decide_eq_false h0, Option.isNone_none, beq_self_eq_true]
        refine RDraw_seg (by kernel_rfl) (by kernel_rfl) 34 rfl ?_
        change RS _ _ [0, 1, 2, 3, 4, 5, 6, 7, 8, 9, 10, 11, 12, 13, 14, 15, 16, 17, 18, 19, 20, 21, 22, 23, 24, 25, 26, 27, 28, 29, 30, 31, 32, 33] _ _ _
        refine RS_det (by kernel_rfl) ?_
        repeat (first | refine ToO_step (fun Q hq => by (simp -implicitDefEqProofs (disch := omega) only [go_sem, Option.isNone_none]; exact hq)) ?_ | refine ToO_guard (by (simp -implicitDefEqProofs only [go_sem, Option.isNone_none]; first | done | fail)) (fun Q hq => by (simp -implicitDefEqProofs (disch := omega) only [go_sem, Option.isNone_none]; exact hq)) ?_ | refine ToO_skip (.inl (by (simp -implicitDefEqProofs only [go_sem, Option.isNone_none]; first | done | fail))) ?_ | refine ToO_skip (.inr (by (simp -implicitDefEqProofs only [go_sem, Option.isNone_none]; first | done | fail))) ?_)
        first | refine ToO_step (fun Q hq => by (simp -implicitDefEqProofs (disch := omega) only [go_sem]; refine RCall_eq (pages_known) ?_; simp -implicitDefEqProofs (disch := omega) only [go_sem]; exact hq)) ?_ | refine ToO_guard (by (simp -implicitDefEqProofs only [go_sem]; first | done | fail)) (fun Q hq => by (simp -implicitDefEqProofs (disch := omega) only [go_sem]; refine RCall_eq (pages_known) ?_; simp -implicitDefEqProofs (disch := omega) only [go_sem]; exact hq)) ?_
        repeat (first | refine ToO_step (fun Q hq => by (simp -implicitDefEqProofs (disch := omega) only [go_sem]; exact hq)) ?_ | refine ToO_guard (by (simp -implicitDefEqProofs only [go_sem]; first | done | fail)) (fun Q hq => by (simp -implicitDefEqProofs (disch := omega) only [go_sem]; exact hq)) ?_ | refine ToO_skip (.inl (by (simp -implicitDefEqProofs only [go_sem]; first | done | fail))) ?_ | refine ToO_skip (.inr (by (simp -implicitDefEqProofs only [go_sem]; first | done | fail))) ?_)
        refine ToO_nil ?_
        simp -implicitDefEqProofs (disch := omega) only [go_sem]
        exact hQ _ _ fun w' hs => ⟨rfl, hs.anchor (by simp)⟩
    have k2 : decide ((256 : Int) ≤ (s.length : Int)) = true := decide_eq_true (by omega)
    have ht252 : (s.take 252).length = 252 := by rw [List.length_take]; omega
    simp -implicitDefEqProofs (disch := omega) only [go_sem, k2, Int.reduceToNat]
    refine RNew_intro fun g1 hg1 => ?_
    simp -implicitDefEqProofs (disch := omega) only [go_sem, Int.reduceToNat]
    refine RCall_frameS [.cells g1 39 #[str [], .slice none 0 0, .int .i64 0]] [.anchor w []] [g1] (fun _ h => h) (by simp [Res.fp]) (fun w1 hs => pages_radd g1 (s.take 252) (by omega) w1 (hs.reanchors (by simp [Res.fp]))) ?_
    rintro _ _ ⟨gp, c, sp, ng, rfl, rfl⟩ _
    have hml := mk_len h256s
    have hpl : (Pg.pg (s.take 252)).length = 256 := Pg.pg_len (by omega)
    have hdl : (s.drop 256).length ≤ 3000 := by rw [List.length_drop]; omega
    simp -implicitDefEqProofs (disch := omega) only [go_sem]
    refine RDraw_to 10 (by kernel_rfl) (by kernel_rfl) (by kernel_rfl) ?_
    repeat (first | refine Tr_step (fun Q hq => by (simp -implicitDefEqProofs (disch := omega) only [go_sem, Int.reduceToNat]; exact hq)) ?_ | refine Tr_guard (by (simp -implicitDefEqProofs only [go_sem, Int.reduceToNat]; first | done | fail)) (fun Q hq => by (simp -implicitDefEqProofs (disch := omega) only [go_sem, Int.reduceToNat]; exact hq)) ?_ | refine Tr_skip (.inl (by (simp -implicitDefEqProofs only [go_sem, Int.reduceToNat]; first | done | fail))) ?_ | refine Tr_skip (.inr (by (simp -implicitDefEqProofs only [go_sem, Int.reduceToNat]; first | done | fail))) ?_)
    refine To_nil ?_
    generalize hT : Pg.pg (s.take 252) ++ s.drop 256 = T at *
    simp -implicitDefEqProofs (disch := omega) only [go_sem]
    refine RCall_newS (fun w1 hs => pages_open T (by omega) w1) ?_
    rintro v rs (⟨h0, go, gob, spo, ngo, rfl, rfl⟩ | ⟨h0, rfl, rfl⟩) _
    · have h256 := opn_len h0
      obtain ⟨q, hqq⟩ : ∃ q, q = (T).length / 256 := ⟨_, rfl⟩
      have hquo : ((T).length : Int).tdiv 256 = (q : Int) := by rw [Int.tdiv_eq_ediv_of_nonneg (by omega), hqq]; rfl
      simp -implicitDefEqProofs (disch := omega) only [go_sem]
      refine RCall_newS (fun w1 hs => pages_ropen T (by omega) w1) ?_
      rintro _ _ ⟨g, hd, pv, nv, rest, rfl, rfl, hhd⟩ _
      rw [h0]
      have hhd' := hhd h0
      subst hhd'
      simp -implicitDefEqProofs (disch := omega) only [go_sem, decide_true, Option.isNone_some, beq_self_eq_true]
      refine RDraw_seg (by kernel_rfl) (by kernel_rfl) 34 rfl ?_
      change RS _ _ [0, 1, 2, 3, 4, 5, 6, 7, 8, 9, 10, 11, 12, 13, 14, 15, 16, 17, 18, 19, 20, 21, 22, 23, 24, 25, 26, 27, 28, 29, 30, 31, 32, 33] _ _ _
      refine RS_det (by kernel_rfl) ?_
      repeat (first | refine ToO_step (fun Q hq => by (simp -implicitDefEqProofs (disch := omega) only [go_sem, Option.isNone_some]; exact hq)) ?_ | refine ToO_guard (by (simp -implicitDefEqProofs only [go_sem, Option.isNone_some]; first | done | fail)) (fun Q hq => by (simp -implicitDefEqProofs (disch := omega) only [go_sem, Option.isNone_some]; exact hq)) ?_ | refine ToO_skip (.inl (by (simp -implicitDefEqProofs only [go_sem, Option.isNone_some]; first | done | fail))) ?_ | refine ToO_skip (.inr (by (simp -implicitDefEqProofs only [go_sem, Option.isNone_some]; first | done | fail))) ?_)
      first | refine ToO_step (fun Q hq => by (simp -implicitDefEqProofs (disch := omega) only [go_sem]; refine RCall_eqS (fun w1 hs => pages_text go gob (T) ((T).length + spo.length) h256 (Pg.opn (T)).1 0 w1 (Pg.at_of hs (by simp)) (Pg.has_of (t := 5) (sp := spo) hs (by simp))) ?_; simp -implicitDefEqProofs (disch := omega) only [go_sem]; exact hq)) ?_ | refine ToO_guard (by (simp -implicitDefEqProofs only [go_sem]; first | done | fail)) (fun Q hq => by (simp -implicitDefEqProofs (disch := omega) only [go_sem]; refine RCall_eqS (fun w1 hs => pages_text go gob (T) ((T).length + spo.length) h256 (Pg.opn (T)).1 0 w1 (Pg.at_of hs (by simp)) (Pg.has_of (t := 5) (sp := spo) hs (by simp))) ?_; simp -implicitDefEqProofs (disch := omega) only [go_sem]; exact hq)) ?_
      repeat (first | refine ToO_step (fun Q hq => by (simp -implicitDefEqProofs (disch := omega) only [go_sem, decide_true]; exact hq)) ?_ | refine ToO_guard (by (simp -implicitDefEqProofs only [go_sem, decide_true]; first | done | fail)) (fun Q hq => by (simp -implicitDefEqProofs (disch := omega) only [go_sem, decide_true]; exact hq)) ?_ | refine ToO_skip (.inl (by (simp -implicitDefEqProofs only [go_sem, decide_true]; first | done | fail))) ?_ | refine ToO_skip (.inr (by (simp -implicitDefEqProofs only [go_sem, decide_true]; first | done | fail))) ?_)
      first | refine ToO_step (fun Q hq => by (simp -implicitDefEqProofs (disch := omega) only [go_sem]; refine RCall_eqS (fun w1 hs => pages_head go (some ⟨gob, 0, none⟩) (T).length ((T).length + spo.length) h256 (Pg.opn (T)).1 0 w1 (Pg.at_of hs (by simp))) ?_; simp -implicitDefEqProofs (disch := omega) only [go_sem]; exact hq)) ?_ | refine ToO_guard (by (simp -implicitDefEqProofs only [go_sem]; first | done | fail)) (fun Q hq => by (simp -implicitDefEqProofs (disch := omega) only [go_sem]; refine RCall_eqS (fun w1 hs => pages_head go (some ⟨gob, 0, none⟩) (T).length ((T).length + spo.length) h256 (Pg.opn (T)).1 0 w1 (Pg.at_of hs (by simp))) ?_; simp -implicitDefEqProofs (disch := omega) only [go_sem]; exact hq)) ?_
      repeat (first | refine ToO_step (fun Q hq => by (simp -implicitDefEqProofs (disch := omega) only [go_sem, decide_true]; exact hq)) ?_ | refine ToO_guard (by (simp -implicitDefEqProofs only [go_sem, decide_true]; first | done | fail)) (fun Q hq => by (simp -implicitDefEqProofs (disch := omega) only [go_sem, decide_true]; exact hq)) ?_ | refine ToO_skip (.inl (by (simp -implicitDefEqProofs only [go_sem, decide_true]; first | done | fail))) ?_ | refine ToO_skip (.inr (by (simp -implicitDefEqProofs only [go_sem, decide_true]; first | done | fail))) ?_)
      first | refine ToO_step (fun Q hq => by (simp -implicitDefEqProofs (disch := omega) only [go_sem]; refine RCall_eqS (fun w1 hs => by have := pages_count go (some ⟨gob, 0, none⟩) (T).length ((T).length + spo.length) h256 (by omega) (Pg.opn (T)).1 0 w1 (Pg.at_of hs (by simp)); rw [← hqq] at this; exact this) ?_; simp -implicitDefEqProofs (disch := omega) only [go_sem]; exact hq)) ?_ | refine ToO_guard (by (simp -implicitDefEqProofs only [go_sem]; first | done | fail)) (fun Q hq => by (simp -implicitDefEqProofs (disch := omega) only [go_sem]; refine RCall_eqS (fun w1 hs => by have := pages_count go (some ⟨gob, 0, none⟩) (T).length ((T).length + spo.length) h256 (by omega) (Pg.opn (T)).1 0 w1 (Pg.at_of hs (by simp)); rw [← hqq] at this; exact this) ?_; simp -implicitDefEqProofs (disch := omega) only [go_sem]; exact hq)) ?_
      repeat (first | refine ToO_step (fun Q hq => by (simp -implicitDefEqProofs (disch := omega) only [go_sem, decide_true, hquo]; exact hq)) ?_ | refine ToO_guard (by (simp -implicitDefEqProofs only [go_sem, decide_true, hquo]; first | done | fail)) (fun Q hq => by (simp -implicitDefEqProofs (disch := omega) only [go_sem, decide_true, hquo]; exact hq)) ?_ | refine ToO_skip (.inl (by (simp -implicitDefEqProofs only [go_sem, decide_true, hquo]; first | done | fail))) ?_ | refine ToO_skip (.inr (by (simp -implicitDefEqProofs only [go_sem, decide_true, hquo]; first | done | fail))) ?_)
      first | refine ToO_step (fun Q hq => by (simp -implicitDefEqProofs (disch := omega) only [go_sem]; refine RCall_eqS (fun w1 hs => pages_reads go (some ⟨gob, 0, none⟩) (T).length ((T).length + spo.length) h256 (Pg.opn (T)).1 0 w1 (Pg.at_of hs (by simp))) ?_; simp -implicitDefEqProofs (disch := omega) only [go_sem]; exact hq)) ?_ | refine ToO_guard (by (simp -implicitDefEqProofs only [go_sem]; first | done | fail)) (fun Q hq => by (simp -implicitDefEqProofs (disch := omega) only [go_sem]; refine RCall_eqS (fun w1 hs => pages_reads go (some ⟨gob, 0, none⟩) (T).length ((T).length + spo.length) h256 (Pg.opn (T)).1 0 w1 (Pg.at_of hs (by simp))) ?_; simp -implicitDefEqProofs (disch := omega) only [go_sem]; exact hq)) ?_
      repeat (first | refine ToO_step (fun Q hq => by (simp -implicitDefEqProofs (disch := omega) only [go_sem, decide_true]; exact hq)) ?_ | refine ToO_guard (by (simp -implicitDefEqProofs only [go_sem, decide_true]; first | done | fail)) (fun Q hq => by (simp -implicitDefEqProofs (disch := omega) only [go_sem, decide_true]; exact hq)) ?_ | refine ToO_skip (.inl (by (simp -implicitDefEqProofs only [go_sem, decide_true]; first | done | fail))) ?_ | refine ToO_skip (.inr (by (simp -implicitDefEqProofs only [go_sem, decide_true]; first | done | fail))) ?_)
      first | refine ToO_step (fun Q hq => by (simp -implicitDefEqProofs (disch := omega) only [go_sem]; refine RCall_eq (pages_known) ?_; simp -implicitDefEqProofs (disch := omega) only [go_sem]; exact hq)) ?_ | refine ToO_guard (by (simp -implicitDefEqProofs only [go_sem]; first | done | fail)) (fun Q hq => by (simp -implicitDefEqProofs (disch := omega) only [go_sem]; refine RCall_eq (pages_known) ?_; simp -implicitDefEqProofs (disch := omega) only [go_sem]; exact hq)) ?_
      repeat (first | refine ToO_step (fun Q hq => by (simp -implicitDefEqProofs (disch := omega) only [go_sem]; exact hq)) ?_ | refine ToO_guard (by (simp -implicitDefEqProofs only [go_sem]; first | done | fail)) (fun Q hq => by (simp -implicitDefEqProofs (disch := omega) only [go_sem]; exact hq)) ?_ | refine ToO_skip (.inl (by (simp -implicitDefEqProofs only [go_sem]; first | done | fail))) ?_ | refine ToO_skip (.inr (by (simp -implicitDefEqProofs only [go_sem]; first | done | fail))) ?_)
      refine ToO_nil ?_
      simp -implicitDefEqProofs (disch := omega) only [go_sem]
      exact hQ _ _ fun w' hs => ⟨rfl, hs.anchor (by simp)⟩
    · simp -implicitDefEqProofs (disch := omega) only [go_sem]
      refine RCall_newS (fun w1 hs => pages_ropen T (by omega) w1) ?_
      rintro _ _ ⟨g, hd, pv, nv, rest, rfl, rfl, _⟩ _
      simp -implicitDefEqProofs (disch := omega) only [go_sem, decide_true, decide_eq_false h0, Option.isNone_none, beq_self_eq_true]
      refine RDraw_seg (by kernel_rfl) (by kernel_rfl) 34 rfl ?_
      change RS _ _ [0, 1, 2, 3, 4, 5, 6, 7, 8, 9, 10, 11, 12, 13, 14, 15, 16, 17, 18, 19, 20, 21, 22, 23, 24, 25, 26, 27, 28, 29, 30, 31, 32, 33] _ _ _
      refine RS_det (by kernel_rfl) ?_
      repeat (first | refine ToO_step (fun Q hq => by (simp -implicitDefEqProofs (disch := omega) only [go_sem, Option.isNone_none]; exact hq)) ?_ | refine ToO_guard (by (simp -implicitDefEqProofs only [go_sem, Option.isNone_none]; first | done | fail)) (fun Q hq => by (simp -implicitDefEqProofs (disch := omega) only [go_sem, Option.isNone_none]; exact hq)) ?_ | refine ToO_skip (.inl (by (simp -implicitDefEqProofs only [go_sem, Option.isNone_none]; first | done | fail))) ?_ | refine ToO_skip (.inr (by (simp -implicitDefEqProofs only [go_sem, Option.isNone_none]; first | done | fail))) ?_)
      first | refine ToO_step (fun Q hq => by (simp -implicitDefEqProofs (disch := omega) only [go_sem]; refine RCall_eq (pages_known) ?_; simp -implicitDefEqProofs (disch := omega) only [go_sem]; exact hq)) ?_ | refine ToO_guard (by (simp -implicitDefEqProofs only [go_sem]; first | done | fail)) (fun Q hq => by (simp -implicitDefEqProofs (disch := omega) only [go_sem]; refine RCall_eq (pages_known) ?_; simp -implicitDefEqProofs (disch := omega) only [go_sem]; exact hq)) ?_
      repeat (first | refine ToO_step (fun Q hq => by (simp -implicitDefEqProofs (disch := omega) only [go_sem]; exact hq)) ?_ | refine ToO_guard (by (simp -implicitDefEqProofs only [go_sem]; first | done | fail)) (fun Q hq => by (simp -implicitDefEqProofs (disch := omega) only [go_sem]; exact hq)) ?_ | refine ToO_skip (.inl (by (simp -implicitDefEqProofs only [go_sem]; first | done | fail))) ?_ | refine ToO_skip (.inr (by (simp -implicitDefEqProofs only [go_sem]; first | done | fail))) ?_)
      refine ToO_nil ?_
      simp -implicitDefEqProofs (disch := omega) only [go_sem]
      exact hQ _ _ fun w' hs => ⟨rfl, hs.anchor (by simp)⟩
end Go.Proofs.Ytldidoaagijnhaa
