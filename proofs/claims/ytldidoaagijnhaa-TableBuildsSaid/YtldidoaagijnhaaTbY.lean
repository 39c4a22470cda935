/- table's laws: the walk: what was laid down is read as it was. -/
import Derived.Test.YtldidoaagijnhaaTbX
import Derived.Test.YtldidoaagijnhaaDfaCY4
namespace Go.Proofs.Ytldidoaagijnhaa
set_option linter.unusedSimpArgs false
set_option linter.unusedVariables false
open H
theorem tbytes_t : bytesT Try.prog 59 5 := ⟨Try.underlying59, Try.underlying5⟩
theorem tbytes_sl : slT Try.prog 59 5 1 1 := slT_of (by kernel_rfl)
theorem tbytes_len {d : Dfa.D} (hR : Dfa.Right d) (h100 : d.next.length ≤ 100) : (Tb.build d).1.length ≤ 300000 ∧ 8 ≤ (Tb.build d).1.length := by
  have hb := Tb.build_split hR
  have h4 := Tb.bytes_len d.cls d.next d.rules
  rw [hb]
  simp only [List.length_append, Tb.sumB_len]
  refine ⟨?_, by omega⟩
  have hn2 : d.next.length ≤ 1000 := hR.2.1
  have hul : d.rules.length = d.next.length := hR.2.2.1
  have hrl : ∀ i, i < d.next.length → (Dfa.row d i).length ≤ 256 := fun i hi => by
    have := (Dfa.classes_ok d hR.2.2.2.1).2.1
    have := (hR.2.2.2.2 i hi).2.2.1
    omega
  have hRo := Tb.rowsOf d.next
  have hTl := Tb.rows_len (next := d.next) (c := 256) (Tb.right_plain hR) (fun r hr => by
    obtain ⟨i, hi, rfl⟩ := List.getElem_of_mem hr
    have := hrl i hi
    unfold Dfa.row at this
    rw [List.getD_eq_getElem?_getD, List.getElem?_eq_getElem hi] at this
    exact this) (Tb.rowsW d.next).1 hRo.mem
  have hl3 : (Tb.runs d.cls).length ≤ 18 * 257 := Tb.runsGo_len d.cls (fun i hi => (Tb.right_cls hR i hi).2) 257 0 0 (by omega) (by omega)
  have hrn := hRo.le
  have hwl := hRo.len
  have hl1 := Tb.putS_len [(d.next.length : Int), ((d.next.getD 0 []).length : Int)] (fun n hn => by
    have := hrl 0 (by have := hR.1; omega)
    unfold Dfa.row at this
    simp only [List.mem_cons, List.not_mem_nil, or_false] at hn
    rcases hn with rfl | rfl <;> omega)
  have hl2 := Tb.putS_len [((Tb.rowsW d.next).1.length : Int)] (fun n hn => by
    simp only [List.mem_cons, List.not_mem_nil, or_false] at hn
    subst hn; omega)
  have hl5 : (Tb.ends (Tb.rowsW d.next).2 d.rules).length ≤ 18 * ((Tb.rowsW d.next).2.zip d.rules).length := ends_len fun x hx => by
    obtain ⟨j, hj, rfl⟩ := List.getElem_of_mem hx
    rw [List.length_zip] at hj
    have h1 := hRo.at_ j (by omega)
    have h2 := hR.2.2.2.2 j (by omega)
    rw [List.getElem_zip]
    have h3 := h2.2.1
    have h4 := h1.2.1
    rw [List.getD_eq_getElem?_getD, List.getElem?_eq_getElem (by omega), Option.getD_some] at h3 h4
    simp only []
    omega
  rw [List.length_zip] at hl5
  have h6 : 9 * 256 * (Tb.rowsW d.next).1.length ≤ 9 * 256 * 100 := Nat.mul_le_mul_left _ (by omega)
  unfold Tb.bytes
  simp only [List.length_append, List.length_cons, List.length_nil] at hl1 hl2 ⊢
  omega
set_option maxRecDepth 20000 in
set_option maxHeartbeats 4000000 in
theorem law_back (d : Dfa.D) (at_ : Int) (hat : -9223372036854775808 ≤ at_ ∧ at_ ≤ 9223372036854775807) (b : UInt8) (w : World) (hm : Dfa.Mem w d) : Does Try.prog 7 #[d.val, .int .i64 at_, byte b] w fun v w' => v = .bool true ∧ Ext [] w w' := by
  rw [val_eq]
  refine does (args := [.agg (List.toArray (Dfa.dC (intsV d.cls .i64) (.slice d.a d.next.length d.c) (.slice d.ar d.rules.length d.cr))), .int .i64 at_, byte b]) Try.func7 rfl (by kernel_rfl) (by kernel_rfl) rfl ent_7 (Sat.start w []) ?_; intro QV hQ
  simp -implicitDefEqProofs (disch := omega) only [go_sem]
  refine RNew_intro fun g3 hg3 => ?_
  have hw3 : w.heap.size ≤ g3 := hg3.1
  simp -implicitDefEqProofs (disch := omega) only [go_sem]
  refine RCall_of (φ := fun v => ∃ b, v = .bool b) (fun w1 hs => by have := dfa_light d w1 (hm.keep (hs.anchor (by simp))); rw [val_eq] at this; exact this) ?_
  rintro _ ⟨lt, rfl⟩
  have hnl := hm.nlen
  simp only [maxLen] at hnl
  by_cases hbig : (100 : Int) < (d.next.length : Int)
  · have hb1 : decide ((100 : Int) < (d.next.length : Int)) = true := decide_eq_true hbig
    cases lt with
    | true =>
      simp -implicitDefEqProofs (disch := omega) only [go_sem, hb1, Bool.not_true]
      refine RCall_eq law_known ?_
      simp -implicitDefEqProofs (disch := omega) only [go_sem]
      exact hQ _ _ fun w' hs => ⟨rfl, hs.anchor (by simp)⟩
    | false =>
      simp -implicitDefEqProofs (disch := omega) only [go_sem, hb1, Bool.not_false]
      refine RCall_eq law_known ?_
      simp -implicitDefEqProofs (disch := omega) only [go_sem]
      exact hQ _ _ fun w' hs => ⟨rfl, hs.anchor (by simp)⟩
  have hb1 : decide ((100 : Int) < (d.next.length : Int)) = false := decide_eq_false hbig
  cases lt with
  | false =>
    simp -implicitDefEqProofs (disch := omega) only [go_sem, hb1, Bool.not_false]
    refine RCall_eq law_known ?_
    simp -implicitDefEqProofs (disch := omega) only [go_sem]
    exact hQ _ _ fun w' hs => ⟨rfl, hs.anchor (by simp)⟩
  | true =>
  simp -implicitDefEqProofs (disch := omega) only [go_sem, hb1, Bool.not_true]
  refine RCall_eqS (fun w1 hs => by have := tb_build0 d w1 (hm.keep (hs.anchor (by simp))); rw [val_eq] at this; exact this) ?_
  by_cases hR : Dfa.Right d
  rotate_left
  · have hb : Tb.build d = ([], 4) := by unfold Tb.build; rw [if_neg hR]
    rw [hb]
    simp -implicitDefEqProofs (disch := omega) only [go_sem]
    refine RCall_eqS (fun w1 hs => by have := rdfa_right d w1 (hm.keep (hs.anchor (by simp))); rw [val_eq] at this; exact this) ?_
    simp -implicitDefEqProofs (disch := omega) only [go_sem, hR, decide_false, Bool.not_false]
    refine RCall_eq law_known ?_
    simp -implicitDefEqProofs (disch := omega) only [go_sem]
    exact hQ _ _ fun w' hs => ⟨rfl, hs.anchor (by simp)⟩
  obtain ⟨hl1, hl2⟩ := tbytes_len hR (by omega)
  obtain ⟨F, hpb, hF⟩ := Tb.parse_back hR
  have hpt := fun k b hk => @Tb.parse_turned d hR k b hk
  have hbe : Tb.build d = ((Tb.build d).1, 0) := by rw [Tb.build_split hR]
  rw [hbe]
  generalize (Tb.build d).1 = s at *
  simp -implicitDefEqProofs (disch := omega) only [go_sem]
  refine RCall_any fun w1 hs1 => (tb_parse s (by omega) w1).mono ?_
  rw [hpb]
  rintro v w2 ⟨hx12, x, rfl, hmx, hnx, _, _, _, _, hdx⟩
  have hs2 := hs1.ext hx12
  have hxw2 : Ext [] w w2 := hs2.anchor (by simp)
  have hg3w : g3 < w1.heap.size := hs1.lt _ List.mem_cons_self g3 rfl
  refine ⟨_, hs2.reanchor, ?_⟩
  have hsame : Dfa.sameB x d = true := by
    have h1 : x.cls = F := congrArg Prod.fst hdx
    have h2 : x.next = d.next := congrArg (fun x => x.2.1) hdx
    have h3 : x.rules = d.rules := congrArg (fun x => x.2.2) hdx
    exact same_yes (alike_iff.2 fun i hi => by rw [h1]; exact hF i hi) h2 h3
  rw [val_eq x]
  simp -implicitDefEqProofs (disch := omega) only [go_sem]
  refine RNew_intro fun g9 hg9 => ?_
  have n39 : g3 ≠ g9 := Nat.ne_of_lt hg9.1
  have e8 : decide ((s.length : Int) < 8) = false := decide_eq_false (by omega)
  have hxx : ∀ w', Ext [g3] w2 w' → Ext [] w w' := fun w' hx => hxw2.back hx hw3
  simp -implicitDefEqProofs (disch := omega) only [go_sem, hsetN_ne, n39, Ne.symm n39]
  refine RCall_eqS (u := .bool true) (fun w3 hs => ?_) ?_
  · have hx : Ext [g3] w2 w3 := hs.anchor (by simp)
    have := rdfa_same x d w3 (H.Mem_keepS hmx hx hnx (by simp; omega)) (hm.keep (hxx w3 hx))
    rw [hsame, val_eq, val_eq] at this
    exact this
  have hpos0 := pos_nonneg at_
  have hmod0 := Int.emod_nonneg (pos at_) (b := (s.length : Int)) (by omega)
  have hmod1 := Int.emod_lt_of_pos (pos at_) (b := (s.length : Int)) (by omega)
  obtain ⟨i, hi⟩ : ∃ i : Nat, pos at_ % (s.length : Int) = (i : Int) := ⟨(pos at_ % (s.length : Int)).toNat, by omega⟩
  have hil : i < s.length := by omega
  have hk := hpt i b hil
  have hkl := tnB_len s i b
  have k1 : (i : Int) < (s.length : Int) := by omega
  have k2 : (i : Int) + 1 = ((i + 1 : Nat) : Int) := by omega
  have l1 : (s.take i).length = i := by rw [List.length_take]; omega
  have l2 : (s.drop (i + 1)).length ≤ 1000000 := by rw [List.length_drop]; omega
  have hm8 := mod8_lt b
  obtain ⟨y, hy⟩ : ∃ y, y = s.getD i 0 ^^^ shl8 1 (b % 8).toNat := ⟨_, rfl⟩
  have hyy := hy.symm
  have l3 : (s.take i ++ [y]).length = i + 1 := by rw [List.length_append, l1]; rfl
  simp -implicitDefEqProofs (disch := omega) only [go_sem, e8]
  refine RCall_eq (words_count at_ (s.length : Int) hat (by omega)) ?_
  rw [hi]
  simp -implicitDefEqProofs (disch := omega) only [go_sem]
  refine RDraw_seg (by kernel_rfl) (by kernel_rfl) 19 rfl ?_
  refine RS_cutR [0, 1, 2, 3, 4, 5, 6, 7, 8, 9, 13, 14, 15, 16] [10, 11, 12, 17, 18] (by decide +kernel) ?_
  refine RS_det (by kernel_rfl) ?_
  repeat (first | refine ToO_step (fun Q hq => by (simp -implicitDefEqProofs (disch := omega) only [go_sem, RB_u8_rem8, RB_u8_shlb, k1, k2, hyy]; exact hq)) ?_ | refine ToO_guard (by (simp -implicitDefEqProofs only [go_sem, RB_u8_rem8, RB_u8_shlb, k1, k2, hyy]; first | done | fail)) (fun Q hq => by (simp -implicitDefEqProofs (disch := omega) only [go_sem, RB_u8_rem8, RB_u8_shlb, k1, k2, hyy]; exact hq)) ?_ | refine ToO_skip (.inl (by (simp -implicitDefEqProofs only [go_sem, RB_u8_rem8, RB_u8_shlb, k1, k2, hyy]; first | done | fail))) ?_ | refine ToO_skip (.inr (by (simp -implicitDefEqProofs only [go_sem, RB_u8_rem8, RB_u8_shlb, k1, k2, hyy]; first | done | fail))) ?_)
  refine ToO_nil ?_
  refine RS_text (by kernel_rfl) ?_
  simp -implicitDefEqProofs (disch := omega) only [go_sem]
  refine RRun_build1 tbytes_sl rfl fun g hg => ?_
  simp -implicitDefEqProofs (disch := omega) only [go_sem]
  refine RRun_str_row0 (l := [y]) tbytes_t Try.underlying9 rfl ?_
  have b1 : strV .add ⟨(s.take i).toArray⟩ ⟨#[y]⟩ = some (str (s.take i ++ [y])) := strV_add (s.take i) [y] (by simp; omega)
  have b2 : s.take i ++ [y] ++ s.drop (i + 1) = tnB s i b := by rw [hy]; exact tnB_eq hil b
  simp -implicitDefEqProofs (disch := omega) only [go_sem, b1]
  rw [b2]
  refine RCall_any fun w3 hs3 => (tb_parse (tnB s i b) (by omega) w3).mono ?_
  generalize Tb.parse (tnB s i b) = p at *
  obtain ⟨o, e⟩ := p
  rintro v w4 ⟨hx34, x2, rfl, _⟩
  refine ⟨_, hs3.ext hx34, ?_⟩
  have he : ¬ e = 0 := hk
  rw [val_eq x2]
  simp -implicitDefEqProofs (disch := omega) only [go_sem]
  refine RNew_intro fun g13 hg13 => ?_
  simp -implicitDefEqProofs (disch := omega) only [go_sem, he, decide_false, Bool.not_false]
  refine RCall_eq law_known ?_
  simp -implicitDefEqProofs (disch := omega) only [go_sem]
  exact hQ _ _ fun w' hs => ⟨rfl, hxx w' (hs.anchor (by simp))⟩
/-- Where an automaton is not right there are no rows. -/
theorem tb_rows0 (d : Dfa.D) (hR : ¬ Dfa.Right d) (w : World) (hm : Dfa.Mem w d) : Does Try.prog 27 #[d.val] w fun v w' => v = .tuple #[.slice none 0 0, .slice none 0 0] ∧ Ext [] w w' := by
  rw [val_eq]
  refine does (args := [.agg (List.toArray (Dfa.dC (intsV d.cls .i64) (.slice d.a d.next.length d.c) (.slice d.ar d.rules.length d.cr)))]) Try.func27 rfl (by kernel_rfl) (by kernel_rfl) rfl ent_27 (Sat.start w []) ?_; intro QV hQ
  simp -implicitDefEqProofs (disch := omega) only [go_sem]
  refine RNew_intro fun g1 hg1 => ?_
  simp -implicitDefEqProofs (disch := omega) only [go_sem]
  refine RCall_eqS (fun w1 hs => by have := dfa_right d w1 (hm.keep (hs.anchor (by simp))); rw [val_eq] at this; exact this) ?_
  simp -implicitDefEqProofs (disch := omega) only [go_sem, hR, decide_false]
  exact hQ _ _ fun w' hs => ⟨rfl, hs.anchor (by simp)⟩
theorem rtb_rows0 (d : Dfa.D) (hR : ¬ Dfa.Right d) (w : World) (hm : Dfa.Mem w d) : Does Try.prog 28 #[d.val] w fun v w' => v = .tuple #[.slice none 0 0, .slice none 0 0] ∧ Ext [] w w' := by
  rw [val_eq]
  refine does (args := [.agg (List.toArray (Dfa.dC (intsV d.cls .i64) (.slice d.a d.next.length d.c) (.slice d.ar d.rules.length d.cr)))]) Try.func28 rfl (by kernel_rfl) (by kernel_rfl) rfl ent_28 (Sat.start w []) ?_; intro QV hQ
  simp -implicitDefEqProofs (disch := omega) only [go_sem]
  refine RNew_intro fun g1 hg1 => ?_
  simp -implicitDefEqProofs (disch := omega) only [go_sem]
  refine RCall_eqS (fun w1 hs => by have := rdfa_right d w1 (hm.keep (hs.anchor (by simp))); rw [val_eq] at this; exact this) ?_
  simp -implicitDefEqProofs (disch := omega) only [go_sem, hR, decide_false]
  exact hQ _ _ fun w' hs => ⟨rfl, hs.anchor (by simp)⟩
end Go.Proofs.Ytldidoaagijnhaa
