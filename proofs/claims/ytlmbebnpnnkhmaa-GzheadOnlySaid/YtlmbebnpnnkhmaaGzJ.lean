/- gzhead's laws: the walks: what is laid down, and read. -/
import Derived.Test.YtlmbebnpnnkhmaaGzI
import Derived.Test.YtlmbebnpnnkhmaaCount
namespace Go.Proofs.Ytlmbebnpnnkhmaa
set_option linter.unusedSimpArgs false
set_option linter.unusedVariables false
open H
set_option maxRecDepth 20000 in
set_option maxHeartbeats 4000000 in
theorem law_builds (h : Gz.Hd) (hr : Gz.Rg h) (w : World) : Does Try.prog 7 #[Gz.hdV h] w fun v w' => v = .bool true ∧ Ext [] w w' := by
  have hlight := law_light h
  rw [hdV_eq] at hlight ⊢
  refine does (args := [.agg #[.int .i64 h.time, str h.extra, str h.name, str h.note, .int .i64 h.level, .int .i64 h.os, .bool h.text, .bool h.sum, .int .i64 h.flags]]) Try.func7 rfl (by kernel_rfl) (by kernel_rfl) rfl ent_7 (Sat.start w []) ?_; intro QV hQ
  simp -implicitDefEqProofs (disch := omega) only [go_sem]
  refine RNew_intro fun g hg => ?_
  simp -implicitDefEqProofs (disch := omega) only [go_sem]
  refine RCall_eq hlight ?_
  by_cases hl : Gz.lt h
  rotate_left
  · simp -implicitDefEqProofs (disch := omega) only [go_sem, decide_eq_false hl]
    refine RCall_eq law_known ?_
    simp -implicitDefEqProofs (disch := omega) only [go_sem]
    exact hQ _ _ fun w' hs => ⟨rfl, hs.anchor (by simp)⟩
  have hin := Gz.In.of hr ⟨hl.1, by have := hl.2.1; omega, by have := hl.2.2; omega⟩
  have hlt : h.name.length ≤ 100000 ∧ h.note.length ≤ 100000 := ⟨by have := hl.2.1; omega, by have := hl.2.2; omega⟩
  obtain ⟨l, e, he⟩ : ∃ l e, Gz.build h = (l, e) := ⟨_, _, rfl⟩
  obtain ⟨b, hb⟩ : ∃ b, Gz.right h = b := ⟨_, rfl⟩
  simp -implicitDefEqProofs (disch := omega) only [go_sem, decide_eq_true hl]
  refine RCall_eq (call_build h hin hlt he) ?_
  simp -implicitDefEqProofs (disch := omega) only [go_sem]
  refine RCall_eq (rcall_build h hin hlt he) ?_
  simp -implicitDefEqProofs (disch := omega) only [go_sem]
  refine RDraw_to 19 (by kernel_rfl) (by kernel_rfl) (by kernel_rfl) ?_
  repeat (first | refine Tr_step (fun Q hq => by (simp -implicitDefEqProofs (disch := omega) only [go_sem, decide_true, beq_bb]; exact hq)) ?_ | refine Tr_guard (by (simp -implicitDefEqProofs only [go_sem, decide_true, beq_bb]; first | done | fail)) (fun Q hq => by (simp -implicitDefEqProofs (disch := omega) only [go_sem, decide_true, beq_bb]; exact hq)) ?_ | refine Tr_skip (.inl (by (simp -implicitDefEqProofs only [go_sem, decide_true, beq_bb]; first | done | fail))) ?_ | refine Tr_skip (.inr (by (simp -implicitDefEqProofs only [go_sem, decide_true, beq_bb]; first | done | fail))) ?_)
  first | refine Tr_step (fun Q hq => by (simp -implicitDefEqProofs (disch := omega) only [go_sem, decide_true]; refine RCall_eq (call_right h hin hb) ?_; simp -implicitDefEqProofs (disch := omega) only [go_sem, decide_true]; exact hq)) ?_ | refine Tr_guard (by (simp -implicitDefEqProofs only [go_sem, decide_true]; first | done | fail)) (fun Q hq => by (simp -implicitDefEqProofs (disch := omega) only [go_sem, decide_true]; refine RCall_eq (call_right h hin hb) ?_; simp -implicitDefEqProofs (disch := omega) only [go_sem, decide_true]; exact hq)) ?_
  repeat (first | refine Tr_step (fun Q hq => by (simp -implicitDefEqProofs (disch := omega) only [go_sem, decide_true, beq_bb]; exact hq)) ?_ | refine Tr_guard (by (simp -implicitDefEqProofs only [go_sem, decide_true, beq_bb]; first | done | fail)) (fun Q hq => by (simp -implicitDefEqProofs (disch := omega) only [go_sem, decide_true, beq_bb]; exact hq)) ?_ | refine Tr_skip (.inl (by (simp -implicitDefEqProofs only [go_sem, decide_true, beq_bb]; first | done | fail))) ?_ | refine Tr_skip (.inr (by (simp -implicitDefEqProofs only [go_sem, decide_true, beq_bb]; first | done | fail))) ?_)
  first | refine Tr_step (fun Q hq => by (simp -implicitDefEqProofs (disch := omega) only [go_sem, decide_true]; refine RCall_eq (rcall_right h hin hb) ?_; simp -implicitDefEqProofs (disch := omega) only [go_sem, decide_true]; exact hq)) ?_ | refine Tr_guard (by (simp -implicitDefEqProofs only [go_sem, decide_true]; first | done | fail)) (fun Q hq => by (simp -implicitDefEqProofs (disch := omega) only [go_sem, decide_true]; refine RCall_eq (rcall_right h hin hb) ?_; simp -implicitDefEqProofs (disch := omega) only [go_sem, decide_true]; exact hq)) ?_
  repeat (first | refine Tr_step (fun Q hq => by (simp -implicitDefEqProofs (disch := omega) only [go_sem, decide_true, beq_bb]; exact hq)) ?_ | refine Tr_guard (by (simp -implicitDefEqProofs only [go_sem, decide_true, beq_bb]; first | done | fail)) (fun Q hq => by (simp -implicitDefEqProofs (disch := omega) only [go_sem, decide_true, beq_bb]; exact hq)) ?_ | refine Tr_skip (.inl (by (simp -implicitDefEqProofs only [go_sem, decide_true, beq_bb]; first | done | fail))) ?_ | refine Tr_skip (.inr (by (simp -implicitDefEqProofs only [go_sem, decide_true, beq_bb]; first | done | fail))) ?_)
  first | refine Tr_step (fun Q hq => by (simp -implicitDefEqProofs (disch := omega) only [go_sem]; refine RCall_eq (law_known) ?_; simp -implicitDefEqProofs (disch := omega) only [go_sem]; exact hq)) ?_ | refine Tr_guard (by (simp -implicitDefEqProofs only [go_sem]; first | done | fail)) (fun Q hq => by (simp -implicitDefEqProofs (disch := omega) only [go_sem]; refine RCall_eq (law_known) ?_; simp -implicitDefEqProofs (disch := omega) only [go_sem]; exact hq)) ?_
  repeat (first | refine Tr_step (fun Q hq => by (simp -implicitDefEqProofs (disch := omega) only [go_sem]; exact hq)) ?_ | refine Tr_guard (by (simp -implicitDefEqProofs only [go_sem]; first | done | fail)) (fun Q hq => by (simp -implicitDefEqProofs (disch := omega) only [go_sem]; exact hq)) ?_ | refine Tr_skip (.inl (by (simp -implicitDefEqProofs only [go_sem]; first | done | fail))) ?_ | refine Tr_skip (.inr (by (simp -implicitDefEqProofs only [go_sem]; first | done | fail))) ?_)
  refine To_nil ?_
  simp -implicitDefEqProofs (disch := omega) only [go_sem]
  exact hQ _ _ fun w' hs => ⟨rfl, hs.anchor (by simp)⟩
set_option maxRecDepth 20000 in
set_option maxHeartbeats 4000000 in
theorem law_parses (s : List UInt8) (a : Int) (ha : -9223372036854775808 ≤ a ∧ a ≤ 9223372036854775807) (w : World) : Does Try.prog 8 #[str s, .int .i64 a] w fun v w' => v = .bool true ∧ Ext [] w w' := by
  refine does (args := [str s, .int .i64 a]) Try.func8 rfl (by kernel_rfl) (by kernel_rfl) rfl ent_8 (Sat.start w []) ?_; intro QV hQ
  by_cases hl : s.length ≤ 70000
  rotate_left
  · have k : decide ((70000 : Int) < (s.length : Int)) = true := decide_eq_true (by omega)
    simp -implicitDefEqProofs (disch := omega) only [go_sem, k]
    refine RCall_eq law_known ?_
    simp -implicitDefEqProofs (disch := omega) only [go_sem]
    exact hQ _ _ fun w' hs => ⟨rfl, hs.anchor (by simp)⟩
  have k : decide ((70000 : Int) < (s.length : Int)) = false := decide_eq_false (by omega)
  obtain ⟨h, to, e, he⟩ : ∃ h to e, Gz.parse s a = (h, to, e) := ⟨_, _, _, rfl⟩
  simp -implicitDefEqProofs (disch := omega) only [go_sem, k]
  refine RCall_eq (call_parse s (by omega) a ha he) ?_
  simp -implicitDefEqProofs (disch := omega) only [go_sem]
  refine RNew_intro fun g hg => ?_
  simp only [below_cons, below_nil, under_anchor, and_true] at hg
  simp -implicitDefEqProofs (disch := omega) only [go_sem]
  refine RCall_eq (rcall_parse s (by omega) a ha he) ?_
  simp -implicitDefEqProofs (disch := omega) only [go_sem]
  refine RNew_intro fun g2 hg2 => ?_
  simp only [below_cons, below_nil, under_anchor, under_cells, and_true] at hg2
  have n1 : g ≠ g2 := by omega
  have n2 : g2 ≠ g := by omega
  simp -implicitDefEqProofs (disch := omega) only [go_sem, decide_true, beq_bb]
  refine RCall_eq law_known ?_
  simp -implicitDefEqProofs (disch := omega) only [go_sem]
  exact hQ _ _ fun w' hs => ⟨rfl, hs.anchor (by simp)⟩
theorem only_in {hd : Gz.Hd} {s : List UInt8} {to : Nat} (hs : s.length ≤ 70000) (hr : Gz.right hd = true) (hb : Gz.bytes hd = s.take to) : Gz.In hd ∧ (hd.name.length ≤ 100000 ∧ hd.note.length ≤ 100000) := by
  have hlen : (Gz.bytes hd).length ≤ 70000 := by rw [hb, List.length_take]; omega
  obtain ⟨F, T, L, O, he, hF, hF4, hT, hL, hO, g4, g8, g16, hx, hn, ht⟩ := Gz.right_all hr
  have hnl : hd.name.length ≤ 70000 ∧ hd.note.length ≤ 70000 := by
    have e1 : hd.flags.toNat = F := by rw [he]; simp
    unfold Gz.bytes Gz.body at hlen
    rw [e1] at hlen
    simp only [List.length_append] at hlen
    unfold Gz.fits at g8 g16
    unfold Gz.zB at hlen
    constructor
    · cases h8 : Gz.has F 8 with
      | true => rw [h8, if_pos rfl] at hlen; simp only [List.length_append] at hlen; omega
      | false => rw [h8, Bool.false_or, decide_eq_true_eq] at g8; rw [g8]; simp
    · cases h16 : Gz.has F 16 with
      | true =>
        simp only [h16, ↓reduceIte, List.length_append] at hlen; omega
      | false => rw [h16, Bool.false_or, decide_eq_true_eq] at g16; rw [g16]; simp
  refine ⟨⟨?_, ?_, ?_, ?_, by omega, by omega, by omega⟩, by omega, by omega⟩ <;> (rw [he]; simp only; omega)
set_option maxRecDepth 20000 in
set_option maxHeartbeats 4000000 in
theorem law_only (s : List UInt8) (w : World) : Does Try.prog 10 #[str s] w fun v w' => v = .bool true ∧ Ext [] w w' := by
  refine does (args := [str s]) Try.func10 rfl (by kernel_rfl) (by kernel_rfl) rfl ent_10 (Sat.start w []) ?_; intro QV hQ
  by_cases hl : s.length ≤ 70000
  rotate_left
  · have k : decide ((70000 : Int) < (s.length : Int)) = true := decide_eq_true (by omega)
    simp -implicitDefEqProofs (disch := omega) only [go_sem, k]
    refine RCall_eq law_known ?_
    simp -implicitDefEqProofs (disch := omega) only [go_sem]
    exact hQ _ _ fun w' hs => ⟨rfl, hs.anchor (by simp)⟩
  have k : decide ((70000 : Int) < (s.length : Int)) = false := decide_eq_false (by omega)
  simp -implicitDefEqProofs (disch := omega) only [go_sem, k]
  by_cases h0 : (Gz.parse s 0).2.2 = 0
  rotate_left
  · have hh := Gz.parse_err h0
    obtain ⟨e, he⟩ : ∃ e, Gz.parse s 0 = (Gz.h0, 0, e) ∧ e ≠ 0 := ⟨(Gz.parse s 0).2.2, Prod.ext hh.1 (Prod.ext hh.2 rfl), h0⟩
    refine RCall_eq (call_parse s (by omega) 0 (by omega) he.1) ?_
    have m1 : Gz.h0.time = 0 := rfl
    have m2 : Gz.h0.extra = [] := rfl
    have m3 : Gz.h0.name = [] := rfl
    have m4 : Gz.h0.note = [] := rfl
    have m5 : Gz.h0.level = 0 := rfl
    have m6 : Gz.h0.os = 0 := rfl
    have m7 : Gz.h0.text = false := rfl
    have m8 : Gz.h0.sum = false := rfl
    have m9 : Gz.h0.flags = 0 := rfl
    simp -implicitDefEqProofs (disch := omega) only [go_sem]
    refine RNew_intro fun g hg => ?_
    simp -implicitDefEqProofs (disch := omega) only [go_sem, decide_eq_false he.2, m1, m2, m3, m4, m5, m6, m7, m8, m9, decide_true, beq_bb]
    refine RCall_eq law_known ?_
    simp -implicitDefEqProofs (disch := omega) only [go_sem]
    exact hQ _ _ fun w' hs => ⟨rfl, hs.anchor (by simp)⟩
  obtain ⟨h, to, he, hR, hb, h10, hto⟩ := Gz.parse_only h0
  obtain ⟨hin, hlt⟩ := only_in hl hR hb
  have hbu : Gz.build h = (s.take to, 0) := by unfold Gz.build; rw [if_pos hR, hb]
  refine RCall_eq (call_parse s (by omega) 0 (by omega) he) ?_
  have k1 : decide ((10 : Int) ≤ (to : Int)) = true := decide_eq_true (by omega)
  have k2 : decide ((to : Int) ≤ (s.length : Int)) = true := decide_eq_true (by omega)
  simp -implicitDefEqProofs (disch := omega) only [go_sem]
  refine RNew_intro fun g hg => ?_
  simp -implicitDefEqProofs (disch := omega) only [go_sem, decide_true]
  refine RCall_eq (call_build h hin hlt hbu) ?_
  simp -implicitDefEqProofs (disch := omega) only [go_sem, decide_true]
  refine RCall_eq (call_right h hin hR) ?_
  simp -implicitDefEqProofs (disch := omega) only [go_sem, k1, k2, decide_true]
  refine RCall_eq law_known ?_
  simp -implicitDefEqProofs (disch := omega) only [go_sem]
  exact hQ _ _ fun w' hs => ⟨rfl, hs.anchor (by simp)⟩
theorem bytes_le {h : Gz.Hd} (hl : Gz.lt h) : (Gz.bytes h).length ≤ 100000 := by
  obtain ⟨h1, h2, h3⟩ := hl
  have a1 : (Gz.exB h.flags.toNat h.extra).length ≤ h.extra.length + 2 := exB_len _ _
  have a2 := zB_len h.flags.toNat 8 h.name
  have a3 := zB_len h.flags.toNat 16 h.note
  have a4 : (Gz.sumB h.sum (Gz.body h)).length ≤ 2 := by unfold Gz.sumB; split <;> simp [Vint.fixL_len]
  have a5 := Gz.fixB_len (Gz.flagB h) h.time.toNat h.level.toNat h.os.toNat
  unfold Gz.bytes
  rw [List.length_append]
  have : (Gz.body h).length ≤ 90000 := by unfold Gz.body; simp only [List.length_append]; omega
  omega
set_option maxRecDepth 20000 in
set_option maxHeartbeats 8000000 in
theorem law_gback (h : Gz.Hd) (hr : Gz.Rg h) (a c : List UInt8) (cut : Int) (hcut : -9223372036854775808 ≤ cut ∧ cut ≤ 9223372036854775807) (w : World) :
    Does Try.prog 9 #[.agg #[.int .i64 h.time, str h.extra, str h.name, str h.note, .int .i64 h.level, .int .i64 h.os, .bool h.text, .bool h.sum, .int .i64 h.flags, str a, str c, .int .i64 cut]] w fun v w' => v = .bool true ∧ Ext [] w w' := by
  have hlight := law_light h
  rw [hdV_eq] at hlight
  refine does (args := [.agg #[.int .i64 h.time, str h.extra, str h.name, str h.note, .int .i64 h.level, .int .i64 h.os, .bool h.text, .bool h.sum, .int .i64 h.flags, str a, str c, .int .i64 cut]]) Try.func9 rfl (by kernel_rfl) (by kernel_rfl) rfl ent_9 (Sat.start w []) ?_; intro QV hQ
  simp -implicitDefEqProofs (disch := omega) only [go_sem]
  refine RNew_intro fun g hg => ?_
  simp only [below_cons, below_nil, under_anchor, and_true] at hg
  simp -implicitDefEqProofs (disch := omega) only [go_sem]
  refine RCall_eq hlight ?_
  by_cases hl : Gz.lt h
  rotate_left
  · simp -implicitDefEqProofs (disch := omega) only [go_sem, decide_eq_false hl]
    refine RCall_eq law_known ?_
    simp -implicitDefEqProofs (disch := omega) only [go_sem]
    exact hQ _ _ fun w' hs => ⟨rfl, hs.anchor (by simp)⟩
  by_cases ha : a.length ≤ 1000
  rotate_left
  · have k : decide ((1000 : Int) < (a.length : Int)) = true := decide_eq_true (by omega)
    simp -implicitDefEqProofs (disch := omega) only [go_sem, decide_eq_true hl, k]
    refine RCall_eq law_known ?_
    simp -implicitDefEqProofs (disch := omega) only [go_sem]
    exact hQ _ _ fun w' hs => ⟨rfl, hs.anchor (by simp)⟩
  have ka : decide ((1000 : Int) < (a.length : Int)) = false := decide_eq_false (by omega)
  by_cases hc : c.length ≤ 1000
  rotate_left
  · have k : decide ((1000 : Int) < (c.length : Int)) = true := decide_eq_true (by omega)
    simp -implicitDefEqProofs (disch := omega) only [go_sem, decide_eq_true hl, ka, k]
    refine RCall_eq law_known ?_
    simp -implicitDefEqProofs (disch := omega) only [go_sem]
    exact hQ _ _ fun w' hs => ⟨rfl, hs.anchor (by simp)⟩
  have kc : decide ((1000 : Int) < (c.length : Int)) = false := decide_eq_false (by omega)
  have hin := Gz.In.of hr ⟨hl.1, by have := hl.2.1; omega, by have := hl.2.2; omega⟩
  have hlt : h.name.length ≤ 100000 ∧ h.note.length ≤ 100000 := ⟨by have := hl.2.1; omega, by have := hl.2.2; omega⟩
  simp -implicitDefEqProofs (disch := omega) only [go_sem, decide_eq_true hl, ka, kc]
  cases hR : Gz.right h with
  | false =>
    have hb : Gz.build h = ([], 4) := by unfold Gz.build; rw [hR]; rfl
    refine RCall_eq (call_build h hin hlt hb) ?_
    simp -implicitDefEqProofs (disch := omega) only [go_sem, decide_true]
    refine RCall_eq (call_right h hin hR) ?_
    simp -implicitDefEqProofs (disch := omega) only [go_sem]
    refine RCall_eq law_known ?_
    simp -implicitDefEqProofs (disch := omega) only [go_sem]
    exact hQ _ _ fun w' hs => ⟨rfl, hs.anchor (by simp)⟩
  | true =>
  have hb : Gz.build h = (Gz.bytes h, 0) := by unfold Gz.build; rw [hR]; rfl
  refine RCall_eq (call_build h hin hlt hb) ?_
  have hpb := Gz.parse_back hR a c
  have hge := Gz.bytes_ge h
  have hle := bytes_le hl
  have hcutk := Gz.parse_cut hR
  generalize Gz.bytes h = b at *
  have l1 : (a ++ b).length ≤ 200000 := by rw [List.length_append]; omega
  have l2 : (a ++ b ++ c).length ≤ 300000 := by rw [List.length_append]; omega
  simp -implicitDefEqProofs (disch := omega) only [go_sem, decide_true]
  refine RCall_eq (call_parse (a ++ b ++ c) (by omega) (a.length : Int) (by omega) hpb) ?_
  simp -implicitDefEqProofs (disch := omega) only [go_sem]
  refine RNew_intro fun g2 hg2 => ?_
  simp only [below_cons, below_nil, under_anchor, under_cells, and_true] at hg2
  have n1 : g ≠ g2 := by omega
  have n2 : g2 ≠ g := by omega
  have k10 : decide ((b.length : Int) < 10) = false := decide_eq_false (by omega)
  have ksum : decide ((a.length : Int) + (b.length : Int) = (a.length : Int) + (b.length : Int)) = true := decide_eq_true rfl
  simp -implicitDefEqProofs (disch := omega) only [go_sem, decide_true, beq_bb, k10, Int.natCast_add, ksum]
  have hm := words_count cut (b.length : Int) hcut (by omega)
  have hk0 := Int.emod_nonneg (pos cut) (show (b.length : Int) ≠ 0 by omega)
  have hk1 := Int.emod_lt_of_pos (pos cut) (show (0 : Int) < b.length by omega)
  obtain ⟨k, hk⟩ := Int.eq_ofNat_of_zero_le hk0
  rw [hk] at hk1 hm
  refine RCall_eq hm ?_
  have hkl : k < b.length := by omega
  have hpc := hcutk k hkl
  have l3 : (b.take k).length ≤ 200000 := by rw [List.length_take]; omega
  simp -implicitDefEqProofs (disch := omega) only [go_sem]
  refine RCall_eq (call_parse (b.take k) (by omega) 0 (by omega) hpc) ?_
  simp -implicitDefEqProofs (disch := omega) only [go_sem]
  refine RNew_intro fun g3 hg3 => ?_
  simp -implicitDefEqProofs (disch := omega) only [go_sem, decide_true]
  refine RCall_eq law_known ?_
  simp -implicitDefEqProofs (disch := omega) only [go_sem]
  exact hQ _ _ fun w' hs => ⟨rfl, hs.anchor (by simp)⟩
end Go.Proofs.Ytlmbebnpnnkhmaa
