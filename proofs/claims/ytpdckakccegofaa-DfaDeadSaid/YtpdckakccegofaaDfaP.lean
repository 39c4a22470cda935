/- The laws of dfa: the walks, the last two. -/
import Derived.Test.YtpdckakccegofaaDfaO
import Derived.Test.YtpdckakccegofaaSegF
namespace Go.Proofs.Ytpdckakccegofaa
set_option linter.unusedSimpArgs false
set_option linter.unusedVariables false
open H

theorem newBools_rd {t : TypeId} {v : Value} {rs : List Res} {l : List Bool} (h : Dfa.NewBools t v rs l) : ∃ a, v = .slice a l.length l.length ∧ ∀ w h, Sat w h → (∀ r ∈ rs, r ∈ h) → Rd w a l.length 1 (ofL (fun x => [.bool x]) false l) := by
  rcases h with ⟨rfl, rfl, rfl⟩ | ⟨g, rfl, rfl⟩
  · exact ⟨none, rfl, fun w h hs _ hn => absurd hn (by simp)⟩
  · exact ⟨_, rfl, fun w h hs hm => Dfa.bv_rd (t := t) hs (hm _ List.mem_cons_self)⟩

theorem newBools_skip {t t' : TypeId} {v : Value} {rs h : List Res} {l : List Bool} {g : Nat} {cs : Array Value} (hb : Dfa.NewBools t v rs l) (hs : ∃ w, Sat w (rs ++ h)) (hm : Res.cells g t' cs ∈ h) (n : Nat) (h' : List Res) : lookN ⟨g, 0, none⟩ n (rs ++ h') = lookN ⟨g, 0, none⟩ n h' := by
  rcases hb with ⟨rfl, rfl, rfl⟩ | ⟨g1, rfl, rfl⟩
  · rfl
  · exact lookN_ne _ _ _ _ _ _ _ _ (cells_ne hs hm)

set_option maxRecDepth 20000 in
set_option maxHeartbeats 2000000 in
theorem law_lives (d e : Dfa.D) (w : World) (hm : Dfa.Mem w d) (he : Dfa.Mem w e) : Does Try.prog 8 #[d.val, e.val] w fun v w' => v = .bool true ∧ Ext [] w w' := by
  unfold Dfa.D.val
  refine does (args := [.agg (List.toArray (Dfa.dC (Dfa.clsV d) (.slice d.a d.next.length d.c) (.slice d.ar d.rules.length d.cr))), .agg (List.toArray (Dfa.dC (Dfa.clsV e) (.slice e.a e.next.length e.c) (.slice e.ar e.rules.length e.cr)))]) Try.func8 rfl (by kernel_rfl) (by kernel_rfl) rfl ent_8 (Sat.start w []) ?_; intro QV hQ
  have hnl := hm.nlen
  simp only [maxLen] at hnl
  simp -implicitDefEqProofs (disch := omega) only [go_sem]
  refine RNew_intro fun g hg => ?_
  simp only [below_cons, below_nil, under_anchor, and_true] at hg
  simp -implicitDefEqProofs (disch := omega) only [go_sem]
  refine RNew_intro fun g' hg' => ?_
  simp only [below_cons, below_nil, under_anchor, under_cells, and_true] at hg'
  simp -implicitDefEqProofs (disch := omega) only [go_sem]
  refine RCall_of (φ := fun v => ∃ b, v = .bool b) (fun w1 hs => dfa_light d w1 (hm.keep (hs.mem (.anchor w []) (by simp)))) ?_
  rintro _ ⟨b0, rfl⟩
  cases b0 with
  | false =>
    simp -implicitDefEqProofs (disch := omega) only [go_sem]
    refine RCall_eq dfa_known ?_
    simp -implicitDefEqProofs (disch := omega) only [go_sem]
    exact hQ _ _ fun w' hs => ⟨rfl, hs.anchor (by simp)⟩
  | true =>
    simp -implicitDefEqProofs (disch := omega) only [go_sem]
    refine RCall_of (φ := fun v => ∃ b, v = .bool b) (fun w1 hs => dfa_light e w1 (he.keep (hs.mem (.anchor w []) (by simp)))) ?_
    rintro _ ⟨b0, rfl⟩
    cases b0 with
    | false =>
      simp -implicitDefEqProofs (disch := omega) only [go_sem]
      refine RCall_eq dfa_known ?_
      simp -implicitDefEqProofs (disch := omega) only [go_sem]
      exact hQ _ _ fun w' hs => ⟨rfl, hs.anchor (by simp)⟩
    | true =>
      by_cases h1 : (60 : Int) < (d.next.length : Int)
      · simp -implicitDefEqProofs (disch := omega) only [go_sem, h1, decide_true]
        refine RCall_eq dfa_known ?_
        simp -implicitDefEqProofs (disch := omega) only [go_sem]
        exact hQ _ _ fun w' hs => ⟨rfl, hs.anchor (by simp)⟩
      simp -implicitDefEqProofs (disch := omega) only [go_sem, h1, decide_false]
      refine RDraw_seg (by kernel_rfl) (by kernel_rfl) 23 rfl ?_
      generalize hH : [Res.cells g' 48 (List.toArray (Dfa.dC (Dfa.clsV e) (.slice e.a e.next.length e.c) (.slice e.ar e.rules.length e.cr))), Res.cells g 48 (List.toArray (Dfa.dC (Dfa.clsV d) (.slice d.a d.next.length d.c) (.slice d.ar d.rules.length d.cr))), .anchor w []] = H at *
      change RS _ _ [0, 1, 2, 3, 4, 5, 6, 7, 8, 9, 10, 11, 12, 13, 14, 15, 16, 17, 18, 19, 20, 21, 22] _ _ _
      refine RS_via [3, 4, 5, 6, 7, 8, 9, 10, 11, 12, 13, 14, 15, 16, 17, 18, 19, 20, 21, 22] (fun f h => ∃ v1 rs1 l, Dfa.LiveOf d l ∧ Dfa.NewBools 4 v1 rs1 l ∧ (∃ w, Sat w (rs1 ++ H)) ∧ f 2 = .pointer (some ⟨g, 0, none⟩) ∧ f 3 = .pointer (some ⟨g', 0, none⟩) ∧ f 21 = v1 ∧ f 22 = d.val ∧ h = rs1 ++ H) (fun K' hI => ?_) ?_
      · subst hH
        refine RS_first [0, 2] (by kernel_rfl) ⟨?_, ?_, trivial⟩
        · simp -implicitDefEqProofs (disch := omega) only [go_sem]
          refine RS_first [1, 2] (by kernel_rfl) ⟨?_, ?_, trivial⟩
          · simp -implicitDefEqProofs (disch := omega) only [go_sem]
            refine RCall_newS (fun w1 hs => dfa_live d w1 (hm.keep (hs.mem (.anchor w []) (by simp)))) ?_
            rintro v1 rs1 ⟨l, hl, hb⟩ hw1
            have k1 := newBools_skip hb hw1 (g := g) (List.mem_cons_of_mem _ List.mem_cons_self)
            simp -implicitDefEqProofs (disch := omega) only [go_sem]
            refine RS_first [2] (by kernel_rfl) ⟨?_, trivial⟩
            simp -implicitDefEqProofs (disch := omega) only [go_sem, k1]
            exact hI _ _ ⟨v1, rs1, l, hl, hb, hw1, by (first | (simp -implicitDefEqProofs (disch := omega) only [go_sem]; done) | (simp -implicitDefEqProofs (disch := omega) only [go_sem]; rfl)), by (first | (simp -implicitDefEqProofs (disch := omega) only [go_sem]; done) | (simp -implicitDefEqProofs (disch := omega) only [go_sem]; rfl)), by (first | (simp -implicitDefEqProofs (disch := omega) only [go_sem]; done) | (simp -implicitDefEqProofs (disch := omega) only [go_sem]; rfl)), by (first | (simp -implicitDefEqProofs (disch := omega) only [go_sem]; done) | (simp -implicitDefEqProofs (disch := omega) only [go_sem]; rfl)), rfl⟩
          · simp -implicitDefEqProofs (disch := omega) only [go_sem]
            refine RS_first [1] (by kernel_rfl) ⟨?_, trivial⟩
            simp -implicitDefEqProofs (disch := omega) only [go_sem]
            refine RCall_newS (fun w1 hs => dfa_live d w1 (hm.keep (hs.mem (.anchor w []) (by simp)))) ?_
            rintro v1 rs1 ⟨l, hl, hb⟩ hw1
            simp -implicitDefEqProofs (disch := omega) only [go_sem]
            exact hI _ _ ⟨v1, rs1, l, hl, hb, hw1, by (first | (simp -implicitDefEqProofs (disch := omega) only [go_sem]; done) | (simp -implicitDefEqProofs (disch := omega) only [go_sem]; rfl)), by (first | (simp -implicitDefEqProofs (disch := omega) only [go_sem]; done) | (simp -implicitDefEqProofs (disch := omega) only [go_sem]; rfl)), by (first | (simp -implicitDefEqProofs (disch := omega) only [go_sem]; done) | (simp -implicitDefEqProofs (disch := omega) only [go_sem]; rfl)), by (first | (simp -implicitDefEqProofs (disch := omega) only [go_sem]; done) | (simp -implicitDefEqProofs (disch := omega) only [go_sem]; rfl)), rfl⟩
        · simp -implicitDefEqProofs (disch := omega) only [go_sem]
          refine RS_first [0] (by kernel_rfl) ⟨?_, trivial⟩
          simp -implicitDefEqProofs (disch := omega) only [go_sem]
          refine RS_first [1] (by kernel_rfl) ⟨?_, trivial⟩
          simp -implicitDefEqProofs (disch := omega) only [go_sem]
          refine RCall_newS (fun w1 hs => dfa_live d w1 (hm.keep (hs.mem (.anchor w []) (by simp)))) ?_
          rintro v1 rs1 ⟨l, hl, hb⟩ hw1
          simp -implicitDefEqProofs (disch := omega) only [go_sem]
          exact hI _ _ ⟨v1, rs1, l, hl, hb, hw1, by (first | (simp -implicitDefEqProofs (disch := omega) only [go_sem]; done) | (simp -implicitDefEqProofs (disch := omega) only [go_sem]; rfl)), by (first | (simp -implicitDefEqProofs (disch := omega) only [go_sem]; done) | (simp -implicitDefEqProofs (disch := omega) only [go_sem]; rfl)), by (first | (simp -implicitDefEqProofs (disch := omega) only [go_sem]; done) | (simp -implicitDefEqProofs (disch := omega) only [go_sem]; rfl)), by (first | (simp -implicitDefEqProofs (disch := omega) only [go_sem]; done) | (simp -implicitDefEqProofs (disch := omega) only [go_sem]; rfl)), rfl⟩
      · rintro f h ⟨v1, rs1, l, hl, hb, hw1, e2, e3, e21, e22, rfl⟩
        subst hH
        obtain ⟨a1, rfl, hr1⟩ := newBools_rd hb
        have k1 := newBools_skip hb hw1 (g := g) (List.mem_cons_of_mem _ List.mem_cons_self)
        have k1' := newBools_skip hb hw1 (g := g') List.mem_cons_self
        refine RS_cut [3] [4, 5, 6, 7, 8, 9, 10, 11, 12, 13, 14, 15, 16, 17, 18, 19, 20, 21, 22] (by kernel_rfl) ?_
        refine RS_text (by kernel_rfl) ?_
        simp -implicitDefEqProofs (disch := omega) only [go_sem, e2, e3, e21, e22]
        refine RCall_newS (fun w1 hs => rdfa_live d w1 (hm.keep (hs.mem (.anchor w []) (by simp)))) ?_
        rintro v2 rs2 ⟨l2, hl2, hb2⟩ hw2
        obtain rfl := Dfa.live_unique hl hl2
        obtain ⟨a2, rfl, hr2⟩ := newBools_rd hb2
        have k2 := newBools_skip hb2 hw2 (g := g) (List.mem_append_right _ (List.mem_cons_of_mem _ List.mem_cons_self))
        have k2' := newBools_skip hb2 hw2 (g := g') (List.mem_append_right _ List.mem_cons_self)
        simp -implicitDefEqProofs (disch := omega) only [go_sem, e2, e3, e21, e22]
        have hdd : Dfa.sameB d d = true := same_yes (alike_iff.2 fun _ _ => rfl) rfl rfl
        have hll : l.length ≤ 9223372036854775807 := by
          unfold Dfa.LiveOf at hl
          split at hl
          · rw [hl.1]; omega
          · rw [hl]; simp
        refine RS_det (by kernel_rfl) ?_
        first | refine ToO_step (fun Q hq => by (simp -implicitDefEqProofs (disch := omega) only [go_sem, e2, e3, e21, e22, look_dC, k1, k1', k2, k2', decide_true]; refine RCall_eqS (fun w1 hs => rdfa_bools l l a1 a2 _ _ hll hll w1 (hr1 _ _ hs (fun r hr => by simp [hr])) (hr2 _ _ hs (fun r hr => by simp [hr]))) ?_; simp -implicitDefEqProofs (disch := omega) only [go_sem, e2, e3, e21, e22, look_dC, k1, k1', k2, k2', decide_true]; exact hq)) ?_ | refine ToO_guard (by (simp -implicitDefEqProofs only [go_sem, e2, e3, e21, e22, look_dC, k1, k1', k2, k2', decide_true]; first | done | fail)) (fun Q hq => by (simp -implicitDefEqProofs (disch := omega) only [go_sem, e2, e3, e21, e22, look_dC, k1, k1', k2, k2', decide_true]; refine RCall_eqS (fun w1 hs => rdfa_bools l l a1 a2 _ _ hll hll w1 (hr1 _ _ hs (fun r hr => by simp [hr])) (hr2 _ _ hs (fun r hr => by simp [hr]))) ?_; simp -implicitDefEqProofs (disch := omega) only [go_sem, e2, e3, e21, e22, look_dC, k1, k1', k2, k2', decide_true]; exact hq)) ?_
        repeat (first | refine ToO_step (fun Q hq => by (simp -implicitDefEqProofs (disch := omega) only [go_sem, e2, e3, e21, e22, look_dC, k1, k1', k2, k2', decide_true]; exact hq)) ?_ | refine ToO_guard (by (simp -implicitDefEqProofs only [go_sem, e2, e3, e21, e22, look_dC, k1, k1', k2, k2', decide_true]; first | done | fail)) (fun Q hq => by (simp -implicitDefEqProofs (disch := omega) only [go_sem, e2, e3, e21, e22, look_dC, k1, k1', k2, k2', decide_true]; exact hq)) ?_ | refine ToO_skip (.inl (by (simp -implicitDefEqProofs only [go_sem, e2, e3, e21, e22, look_dC, k1, k1', k2, k2', decide_true]; first | done | fail))) ?_ | refine ToO_skip (.inr (by (simp -implicitDefEqProofs only [go_sem, e2, e3, e21, e22, look_dC, k1, k1', k2, k2', decide_true]; first | done | fail))) ?_)
        first | refine ToO_step (fun Q hq => by (simp -implicitDefEqProofs (disch := omega) only [go_sem, e2, e3, e21, e22, look_dC, k1, k1', k2, k2', decide_true]; refine RCall_eqS (fun w1 hs => dfa_same d e w1 (hm.keep (hs.mem (.anchor w []) (by simp))) (he.keep (hs.mem (.anchor w []) (by simp)))) ?_; simp -implicitDefEqProofs (disch := omega) only [go_sem, e2, e3, e21, e22, look_dC, k1, k1', k2, k2', decide_true]; exact hq)) ?_ | refine ToO_guard (by (simp -implicitDefEqProofs only [go_sem, e2, e3, e21, e22, look_dC, k1, k1', k2, k2', decide_true]; first | done | fail)) (fun Q hq => by (simp -implicitDefEqProofs (disch := omega) only [go_sem, e2, e3, e21, e22, look_dC, k1, k1', k2, k2', decide_true]; refine RCall_eqS (fun w1 hs => dfa_same d e w1 (hm.keep (hs.mem (.anchor w []) (by simp))) (he.keep (hs.mem (.anchor w []) (by simp)))) ?_; simp -implicitDefEqProofs (disch := omega) only [go_sem, e2, e3, e21, e22, look_dC, k1, k1', k2, k2', decide_true]; exact hq)) ?_
        repeat (first | refine ToO_step (fun Q hq => by (simp -implicitDefEqProofs (disch := omega) only [go_sem, e2, e3, e21, e22, look_dC, k1, k1', k2, k2', decide_true]; exact hq)) ?_ | refine ToO_guard (by (simp -implicitDefEqProofs only [go_sem, e2, e3, e21, e22, look_dC, k1, k1', k2, k2', decide_true]; first | done | fail)) (fun Q hq => by (simp -implicitDefEqProofs (disch := omega) only [go_sem, e2, e3, e21, e22, look_dC, k1, k1', k2, k2', decide_true]; exact hq)) ?_ | refine ToO_skip (.inl (by (simp -implicitDefEqProofs only [go_sem, e2, e3, e21, e22, look_dC, k1, k1', k2, k2', decide_true]; first | done | fail))) ?_ | refine ToO_skip (.inr (by (simp -implicitDefEqProofs only [go_sem, e2, e3, e21, e22, look_dC, k1, k1', k2, k2', decide_true]; first | done | fail))) ?_)
        first | refine ToO_step (fun Q hq => by (simp -implicitDefEqProofs (disch := omega) only [go_sem, e2, e3, e21, e22, look_dC, k1, k1', k2, k2', beq_self_eq_true, decide_true]; refine RCall_eqS (fun w1 hs => rdfa_same d e w1 (hm.keep (hs.mem (.anchor w []) (by simp))) (he.keep (hs.mem (.anchor w []) (by simp)))) ?_; simp -implicitDefEqProofs (disch := omega) only [go_sem, e2, e3, e21, e22, look_dC, k1, k1', k2, k2', beq_self_eq_true, decide_true]; exact hq)) ?_ | refine ToO_guard (by (simp -implicitDefEqProofs only [go_sem, e2, e3, e21, e22, look_dC, k1, k1', k2, k2', beq_self_eq_true, decide_true]; first | done | fail)) (fun Q hq => by (simp -implicitDefEqProofs (disch := omega) only [go_sem, e2, e3, e21, e22, look_dC, k1, k1', k2, k2', beq_self_eq_true, decide_true]; refine RCall_eqS (fun w1 hs => rdfa_same d e w1 (hm.keep (hs.mem (.anchor w []) (by simp))) (he.keep (hs.mem (.anchor w []) (by simp)))) ?_; simp -implicitDefEqProofs (disch := omega) only [go_sem, e2, e3, e21, e22, look_dC, k1, k1', k2, k2', beq_self_eq_true, decide_true]; exact hq)) ?_
        repeat (first | refine ToO_step (fun Q hq => by (simp -implicitDefEqProofs (disch := omega) only [go_sem, e2, e3, e21, e22, look_dC, k1, k1', k2, k2', beq_self_eq_true, decide_true]; exact hq)) ?_ | refine ToO_guard (by (simp -implicitDefEqProofs only [go_sem, e2, e3, e21, e22, look_dC, k1, k1', k2, k2', beq_self_eq_true, decide_true]; first | done | fail)) (fun Q hq => by (simp -implicitDefEqProofs (disch := omega) only [go_sem, e2, e3, e21, e22, look_dC, k1, k1', k2, k2', beq_self_eq_true, decide_true]; exact hq)) ?_ | refine ToO_skip (.inl (by (simp -implicitDefEqProofs only [go_sem, e2, e3, e21, e22, look_dC, k1, k1', k2, k2', beq_self_eq_true, decide_true]; first | done | fail))) ?_ | refine ToO_skip (.inr (by (simp -implicitDefEqProofs only [go_sem, e2, e3, e21, e22, look_dC, k1, k1', k2, k2', beq_self_eq_true, decide_true]; first | done | fail))) ?_)
        first | refine ToO_step (fun Q hq => by (simp -implicitDefEqProofs (disch := omega) only [go_sem, e2, e3, e21, e22, look_dC, k1, k1', k2, k2', beq_self_eq_true, decide_true]; refine RCall_eqS (fun w1 hs => by have := dfa_same d d w1 (hm.keep (hs.mem (.anchor w []) (by simp))) (hm.keep (hs.mem (.anchor w []) (by simp))); rw [hdd] at this; exact this) ?_; simp -implicitDefEqProofs (disch := omega) only [go_sem, e2, e3, e21, e22, look_dC, k1, k1', k2, k2', beq_self_eq_true, decide_true]; exact hq)) ?_ | refine ToO_guard (by (simp -implicitDefEqProofs only [go_sem, e2, e3, e21, e22, look_dC, k1, k1', k2, k2', beq_self_eq_true, decide_true]; first | done | fail)) (fun Q hq => by (simp -implicitDefEqProofs (disch := omega) only [go_sem, e2, e3, e21, e22, look_dC, k1, k1', k2, k2', beq_self_eq_true, decide_true]; refine RCall_eqS (fun w1 hs => by have := dfa_same d d w1 (hm.keep (hs.mem (.anchor w []) (by simp))) (hm.keep (hs.mem (.anchor w []) (by simp))); rw [hdd] at this; exact this) ?_; simp -implicitDefEqProofs (disch := omega) only [go_sem, e2, e3, e21, e22, look_dC, k1, k1', k2, k2', beq_self_eq_true, decide_true]; exact hq)) ?_
        repeat (first | refine ToO_step (fun Q hq => by (simp -implicitDefEqProofs (disch := omega) only [go_sem, e2, e3, e21, e22, look_dC, k1, k1', k2, k2', hdd, beq_self_eq_true, decide_true]; exact hq)) ?_ | refine ToO_guard (by (simp -implicitDefEqProofs only [go_sem, e2, e3, e21, e22, look_dC, k1, k1', k2, k2', hdd, beq_self_eq_true, decide_true]; first | done | fail)) (fun Q hq => by (simp -implicitDefEqProofs (disch := omega) only [go_sem, e2, e3, e21, e22, look_dC, k1, k1', k2, k2', hdd, beq_self_eq_true, decide_true]; exact hq)) ?_ | refine ToO_skip (.inl (by (simp -implicitDefEqProofs only [go_sem, e2, e3, e21, e22, look_dC, k1, k1', k2, k2', hdd, beq_self_eq_true, decide_true]; first | done | fail))) ?_ | refine ToO_skip (.inr (by (simp -implicitDefEqProofs only [go_sem, e2, e3, e21, e22, look_dC, k1, k1', k2, k2', hdd, beq_self_eq_true, decide_true]; first | done | fail))) ?_)
        first | refine ToO_step (fun Q hq => by (simp -implicitDefEqProofs (disch := omega) only [go_sem, e2, e3, e21, e22, look_dC, k1, k1', k2, k2', decide_true]; refine RCall_eq (dfa_known) ?_; simp -implicitDefEqProofs (disch := omega) only [go_sem, e2, e3, e21, e22, look_dC, k1, k1', k2, k2', decide_true]; exact hq)) ?_ | refine ToO_guard (by (simp -implicitDefEqProofs only [go_sem, e2, e3, e21, e22, look_dC, k1, k1', k2, k2', decide_true]; first | done | fail)) (fun Q hq => by (simp -implicitDefEqProofs (disch := omega) only [go_sem, e2, e3, e21, e22, look_dC, k1, k1', k2, k2', decide_true]; refine RCall_eq (dfa_known) ?_; simp -implicitDefEqProofs (disch := omega) only [go_sem, e2, e3, e21, e22, look_dC, k1, k1', k2, k2', decide_true]; exact hq)) ?_
        repeat (first | refine ToO_step (fun Q hq => by (simp -implicitDefEqProofs (disch := omega) only [go_sem, e2, e3, e21, e22, look_dC, k1, k1', k2, k2', decide_true]; exact hq)) ?_ | refine ToO_guard (by (simp -implicitDefEqProofs only [go_sem, e2, e3, e21, e22, look_dC, k1, k1', k2, k2', decide_true]; first | done | fail)) (fun Q hq => by (simp -implicitDefEqProofs (disch := omega) only [go_sem, e2, e3, e21, e22, look_dC, k1, k1', k2, k2', decide_true]; exact hq)) ?_ | refine ToO_skip (.inl (by (simp -implicitDefEqProofs only [go_sem, e2, e3, e21, e22, look_dC, k1, k1', k2, k2', decide_true]; first | done | fail))) ?_ | refine ToO_skip (.inr (by (simp -implicitDefEqProofs only [go_sem, e2, e3, e21, e22, look_dC, k1, k1', k2, k2', decide_true]; first | done | fail))) ?_)
        refine ToO_nil ?_
        simp -implicitDefEqProofs (disch := omega) only [go_sem, e2, e3, e21, e22]
        exact hQ _ _ fun w' hs => ⟨rfl, hs.anchor (by simp)⟩
theorem reach_back {d : Dfa.D} (h : Dfa.Right d) : ∀ (t : List UInt8) (s : Int), 0 ≤ s → s < d.next.length → Dfa.Reach d (Dfa.runFrom d s t).toNat → Dfa.Reach d s.toNat
  | [], _, _, _, hr => hr
  | b :: t, s, h0, h1, hr => by
    obtain ⟨k1, k2, k3, k4⟩ := Dfa.step_ok h h0 h1 b
    exact .step s.toNat _ (by omega) k1 (reach_back h t (Dfa.step d s b) k3 k4 hr)
theorem dead_after {d : Dfa.D} (h : Dfa.Right d) (a b : List UInt8) (hd : ¬ Dfa.Reach d (Dfa.run d a).toNat) : Dfa.after d (a ++ b) = -1 := by
  obtain ⟨e1, k1, k2⟩ := Dfa.run_ok h a
  obtain ⟨e2, k3, k4⟩ := Dfa.run_ok h (a ++ b)
  unfold Dfa.after
  rw [if_pos h]
  have hb := (h.2.2.2.2 (Dfa.run d (a ++ b)).toNat (by omega)).1
  have : ¬ 0 ≤ d.rules.getD (Dfa.run d (a ++ b)).toNat 0 := fun hz => by
    refine hd (reach_back h b (Dfa.run d a) k1 k2 ?_)
    have e : Dfa.runFrom d (Dfa.run d a) b = Dfa.run d (a ++ b) := by rw [e1, e2, Dfa.runFrom_append]
    rw [e]
    exact .base _ (by omega) hz
  omega

set_option maxRecDepth 20000 in
set_option maxHeartbeats 2000000 in
theorem law_dead (d : Dfa.D) (a b : List UInt8) (ha : a.length ≤ 9223372036854775807) (hb : b.length ≤ 9223372036854775807) (w : World) (hm : Dfa.Mem w d) : Does Try.prog 10 #[d.val, str a, str b] w fun v w' => v = .bool true ∧ Ext [] w w' := by
  unfold Dfa.D.val
  refine does (args := [.agg (List.toArray (Dfa.dC (Dfa.clsV d) (.slice d.a d.next.length d.c) (.slice d.ar d.rules.length d.cr))), str a, str b]) Try.func10 rfl (by kernel_rfl) (by kernel_rfl) rfl ent_10 (Sat.start w []) ?_; intro QV hQ
  have hnl := hm.nlen
  simp only [maxLen] at hnl
  simp -implicitDefEqProofs (disch := omega) only [go_sem]
  refine RNew_intro fun g hg => ?_
  simp only [below_cons, below_nil, under_anchor, and_true] at hg
  simp -implicitDefEqProofs (disch := omega) only [go_sem]
  refine RCall_of (φ := fun v => ∃ b, v = .bool b) (fun w1 hs => dfa_light d w1 (hm.keep (hs.mem (.anchor w []) (by simp)))) ?_
  rintro _ ⟨b0, rfl⟩
  cases b0 with
  | false =>
    simp -implicitDefEqProofs (disch := omega) only [go_sem]
    refine RCall_eq dfa_known ?_
    simp -implicitDefEqProofs (disch := omega) only [go_sem]
    exact hQ _ _ fun w' hs => ⟨rfl, hs.anchor (by simp)⟩
  | true =>
    by_cases h1 : (60 : Int) < (d.next.length : Int)
    · simp -implicitDefEqProofs (disch := omega) only [go_sem, h1, decide_true]
      refine RCall_eq dfa_known ?_
      simp -implicitDefEqProofs (disch := omega) only [go_sem]
      exact hQ _ _ fun w' hs => ⟨rfl, hs.anchor (by simp)⟩
    by_cases h2 : (300 : Int) < (a.length : Int)
    · simp -implicitDefEqProofs (disch := omega) only [go_sem, h1, h2, decide_true, decide_false]
      refine RCall_eq dfa_known ?_
      simp -implicitDefEqProofs (disch := omega) only [go_sem]
      exact hQ _ _ fun w' hs => ⟨rfl, hs.anchor (by simp)⟩
    by_cases h3 : (300 : Int) < (b.length : Int)
    · simp -implicitDefEqProofs (disch := omega) only [go_sem, h1, h2, h3, decide_true, decide_false]
      refine RCall_eq dfa_known ?_
      simp -implicitDefEqProofs (disch := omega) only [go_sem]
      exact hQ _ _ fun w' hs => ⟨rfl, hs.anchor (by simp)⟩
    simp -implicitDefEqProofs (disch := omega) only [go_sem, h1, h2, h3, decide_false]
    refine RCall_eqS (fun w1 hs => dfa_right d w1 (hm.keep (hs.mem (.anchor w []) (by simp)))) ?_
    by_cases hr : Dfa.Right d
    rotate_left
    · simp -implicitDefEqProofs (disch := omega) only [go_sem, hr, decide_false]
      refine RCall_eq dfa_known ?_
      simp -implicitDefEqProofs (disch := omega) only [go_sem]
      exact hQ _ _ fun w' hs => ⟨rfl, hs.anchor (by simp)⟩
    simp -implicitDefEqProofs (disch := omega) only [go_sem, hr, decide_true]
    refine RCall_newS (fun w1 hs => dfa_live d w1 (hm.keep (hs.mem (.anchor w []) (by simp)))) ?_
    rintro v1 rs1 ⟨l, hl, hb1⟩ hw1
    unfold Dfa.LiveOf at hl
    rw [if_pos hr] at hl
    have hrl := hr.1
    rcases hb1 with ⟨rfl, _⟩ | ⟨g1, rfl, rfl⟩
    · have := hl.1; simp at this; omega
    have n1 : g ≠ g1 := cells_ne hw1 List.mem_cons_self
    simp -implicitDefEqProofs (disch := omega) only [go_sem, look_dC]
    refine RCall_eqS (fun w1 hs => dfa_run d a ha w1 (hm.keep (hs.mem (.anchor w []) (by simp)))) ?_
    obtain ⟨_, q1, q2⟩ := Dfa.run_ok hr a
    have hlive := hl.2 (Dfa.run d a).toNat (by omega)
    have hda := dead_after hr a
    have hda0 := dead_after hr a []
    rw [List.append_nil] at hda0
    have hget := Dfa.bv_get l (Dfa.run d a).toNat (by omega)
    have g1 : ¬ Dfa.run d a < 0 := by omega
    have g2 : ¬ (l.length : Int) ≤ Dfa.run d a := by omega
    have g3 : Dfa.run d a < (l.length : Int) := by omega
    generalize Dfa.run d a = s at *
    simp -implicitDefEqProofs (disch := omega) only [go_sem, g1, g2, g3, look_dC, hget, decide_true, decide_false]
    cases hx : l.getD s.toNat false with
    | true =>
      simp -implicitDefEqProofs (disch := omega) only [go_sem, hx]
      refine RCall_eq dfa_known ?_
      simp -implicitDefEqProofs (disch := omega) only [go_sem]
      exact hQ _ _ fun w' hs => ⟨rfl, hs.anchor (by simp)⟩
    | false =>
      have hdead : ¬ Dfa.Reach d s.toNat := fun h => by rw [hlive.2 h] at hx; cases hx
      simp -implicitDefEqProofs (disch := omega) only [go_sem, hx, look_dC]
      refine RCall_eqS (fun w1 hs => dfa_after d (a ++ b) (by rw [List.length_append]; omega) w1 (hm.keep (hs.mem (.anchor w []) (by simp)))) ?_
      rw [hda b hdead]
      simp -implicitDefEqProofs (disch := omega) only [go_sem, look_dC]
      refine RCall_eqS (fun w1 hs => dfa_after d a ha w1 (hm.keep (hs.mem (.anchor w []) (by simp)))) ?_
      rw [hda0 hdead]
      simp -implicitDefEqProofs (disch := omega) only [go_sem]
      refine RCall_eq dfa_known ?_
      simp -implicitDefEqProofs (disch := omega) only [go_sem]
      exact hQ _ _ fun w' hs => ⟨rfl, hs.anchor (by simp)⟩
end Go.Proofs.Ytpdckakccegofaa
