/- dfa and its reference: the walks: whether two are alike. -/
import Derived.Test.YtpdckakccegofaaDfaC
namespace Go.Proofs.Ytpdckakccegofaa
set_option linter.unusedSimpArgs false
set_option linter.unusedVariables false
open H
theorem dec_len {α : Type} {l r : List α} [DecidableEq α] (h : ¬ l.length = r.length) : decide (l = r) = false := decide_eq_false fun e => h (by rw [e])
theorem arr_cls (x y : Operand) (d e : Dfa.D) : eqK Try.prog .neq 44 x y (List.toArray (vals 256 (Dfa.clsV d))) (List.toArray (vals 256 (Dfa.clsV e))) (leaves Try.prog 44) = some (.bool (!alike 256 d.cls e.cls)) :=
  (eqK_arr (show arrT Try.prog 44 3 256 .i64 = true by kernel_rfl) x y d.cls e.cls _ rfl).2
theorem bools_at {w : World} {a : Option Addr} {l : List Bool} (h : Rd w a l.length 1 (ofL (fun x => [.bool x]) false l)) (i : Nat) (hi : i < l.length) : ∃ b o, a = some ⟨b, o, none⟩ ∧ b < w.heap.size ∧ w.cell? ⟨b, o + i, none⟩ = some (.bool (l.getD i false)) := by
  obtain ⟨b, o, e, hb, _, hj⟩ := h.at_ i hi
  refine ⟨b, o, e, hb, ?_⟩
  have := hj 0 (by omega); rwa [Nat.mul_one, Nat.add_zero] at this

set_option maxHeartbeats 1000000 in
theorem dfa_ints (l r : List Int) (a a2 : Option Addr) (c c2 : Nat) (hl : l.length ≤ 9223372036854775807) (hl2 : r.length ≤ 9223372036854775807) (w : World) (hr : Rd w a l.length 1 (Dfa.ints l)) (hr2 : Rd w a2 r.length 1 (Dfa.ints r)) :
    Does Try.prog 50 #[.slice a l.length c, .slice a2 r.length c2] w fun v w' => v = .bool (decide (l = r)) ∧ Ext [] w w' := by
  refine does (args := [.slice a l.length c, .slice a2 r.length c2]) Try.func50 rfl (by kernel_rfl) (by kernel_rfl) rfl ent_50 (Sat.start w []) ?_; intro QV hQ
  by_cases h0 : l.length = r.length
  rotate_left
  · have h1 : ¬ (l.length : Int) = (r.length : Int) := by omega
    simp -implicitDefEqProofs (disch := omega) only [go_sem, h1, decide_false]
    exact hQ _ _ fun w' hs => ⟨by rw [dec_len h0], hs.anchor (by simp)⟩
  have h0' : (l.length : Int) = (r.length : Int) := by omega
  simp -implicitDefEqProofs (disch := omega) only [go_sem, h0', decide_true]
  refine RLoop_intro (fun f h => ∃ (i : Nat), i ≤ l.length ∧ l.take i = r.take i ∧ f 0 = .slice a l.length c ∧ f 1 = .slice a2 r.length c2 ∧ f 12 = .int .i64 (l.length : Int) ∧ f 13 = .int .i64 (i : Int) ∧ h = [.anchor w []]) (fun f _ => (l.length - ival (f 13)).toNat) ?_ ?_
  · exact ⟨0, by omega, rfl, by (first | (simp -implicitDefEqProofs (disch := omega) only [go_sem]; done) | (simp -implicitDefEqProofs (disch := omega) only [go_sem]; rfl)), by (first | (simp -implicitDefEqProofs (disch := omega) only [go_sem]; done) | (simp -implicitDefEqProofs (disch := omega) only [go_sem]; rfl)), by (first | (simp -implicitDefEqProofs (disch := omega) only [go_sem, h0']; done) | (simp -implicitDefEqProofs (disch := omega) only [go_sem, h0']; rfl)), by (first | (simp -implicitDefEqProofs (disch := omega) only [go_sem]; done) | (simp -implicitDefEqProofs (disch := omega) only [go_sem]; rfl)), rfl⟩
  rintro f h ⟨i, hi, hf, e0, e1, e12, e13, rfl⟩ Q' hQ'
  by_cases hil : i < l.length
  · have g1 : (i : Int) < (l.length : Int) := by omega
    have g1' : (i : Int) < (r.length : Int) := by omega
    obtain ⟨b, o, rfl, hb, hc⟩ := Dfa.ints_at hr i hil
    obtain ⟨b2, o2, rfl, hb2, hc2⟩ := Dfa.ints_at hr2 i (by omega)
    have ht := Dfa.take_succ l 0 i hil
    have ht2 := Dfa.take_succ r 0 i (by omega)
    have hget : l = r → l.getD i 0 = r.getD i 0 := fun h => by rw [h]
    generalize l.getD i 0 = t at *
    generalize r.getD i 0 = u at *
    simp -implicitDefEqProofs (disch := omega) only [go_sem, e0, e1, e12, e13, g1, g1', decide_true]
    refine RDraw_seg (by kernel_rfl) (by kernel_rfl) 9 rfl ?_
    refine RS_det (by kernel_rfl) ?_
    by_cases h1 : t = u
    · subst h1
      repeat (first | refine ToO_step (fun Q hq => by (simp -implicitDefEqProofs (disch := omega) only [go_sem, e0, e1, e12, e13, hc, hc2, decide_true, beq_self_eq_true]; exact hq)) ?_ | refine ToO_guard (by (simp -implicitDefEqProofs only [go_sem, e0, e1, e12, e13, hc, hc2, decide_true, beq_self_eq_true]; first | done | fail)) (fun Q hq => by (simp -implicitDefEqProofs (disch := omega) only [go_sem, e0, e1, e12, e13, hc, hc2, decide_true, beq_self_eq_true]; exact hq)) ?_ | refine ToO_skip (.inl (by (simp -implicitDefEqProofs only [go_sem, e0, e1, e12, e13, hc, hc2, decide_true, beq_self_eq_true]; first | done | fail))) ?_ | refine ToO_skip (.inr (by (simp -implicitDefEqProofs only [go_sem, e0, e1, e12, e13, hc, hc2, decide_true, beq_self_eq_true]; first | done | fail))) ?_)
      refine ToO_nil ?_
      simp -implicitDefEqProofs (disch := omega) only [go_sem, e0, e1, e12, e13]
      refine hQ' _ _ _ (fun _ hs => hs) ⟨i + 1, by omega, ?_, ?_, ?_, ?_, ?_, rfl⟩ ?_
      · rw [ht, ht2, hf]
      · (first | (simp -implicitDefEqProofs (disch := omega) only [go_sem, e0, e1, e12, e13]; done) | (simp -implicitDefEqProofs (disch := omega) only [go_sem, e0, e1, e12, e13]; rfl))
      · (first | (simp -implicitDefEqProofs (disch := omega) only [go_sem, e0, e1, e12, e13]; done) | (simp -implicitDefEqProofs (disch := omega) only [go_sem, e0, e1, e12, e13]; rfl))
      · (first | (simp -implicitDefEqProofs (disch := omega) only [go_sem, e0, e1, e12, e13]; done) | (simp -implicitDefEqProofs (disch := omega) only [go_sem, e0, e1, e12, e13]; rfl))
      · (first | (simp -implicitDefEqProofs (disch := omega) only [go_sem, e0, e1, e12, e13]; done) | (simp -implicitDefEqProofs (disch := omega) only [go_sem, e0, e1, e12, e13]; rfl))
      · simp -implicitDefEqProofs (disch := omega) only [go_sem, e0, e1, e12, e13]; omega
    · have hne : (t == u) = false := by simpa using h1
      repeat (first | refine ToO_step (fun Q hq => by (simp -implicitDefEqProofs (disch := omega) only [go_sem, e0, e1, e12, e13, hc, hc2, h1, decide_false]; exact hq)) ?_ | refine ToO_guard (by (simp -implicitDefEqProofs only [go_sem, e0, e1, e12, e13, hc, hc2, h1, decide_false]; first | done | fail)) (fun Q hq => by (simp -implicitDefEqProofs (disch := omega) only [go_sem, e0, e1, e12, e13, hc, hc2, h1, decide_false]; exact hq)) ?_ | refine ToO_skip (.inl (by (simp -implicitDefEqProofs only [go_sem, e0, e1, e12, e13, hc, hc2, h1, decide_false]; first | done | fail))) ?_ | refine ToO_skip (.inr (by (simp -implicitDefEqProofs only [go_sem, e0, e1, e12, e13, hc, hc2, h1, decide_false]; first | done | fail))) ?_)
      refine ToO_nil ?_
      simp -implicitDefEqProofs (disch := omega) only [go_sem]
      exact hQ _ _ fun w' hs => ⟨by rw [decide_eq_false]; intro h; exact h1 (hget h), hs.anchor (by simp)⟩
  · have g1 : ¬ (i : Int) < (l.length : Int) := by omega
    have g1' : ¬ (i : Int) < (r.length : Int) := by omega
    rw [List.take_of_length_le (by omega), List.take_of_length_le (by omega)] at hf
    simp -implicitDefEqProofs (disch := omega) only [go_sem, e0, e1, e12, e13, g1, g1', decide_false]
    exact hQ _ _ fun w' hs => ⟨by rw [decide_eq_true hf], hs.anchor (by simp)⟩

set_option maxHeartbeats 1000000 in
theorem rdfa_bools (l r : List Bool) (a a2 : Option Addr) (c c2 : Nat) (hl : l.length ≤ 9223372036854775807) (hl2 : r.length ≤ 9223372036854775807) (w : World) (hr : Rd w a l.length 1 (ofL (fun x => [.bool x]) false l)) (hr2 : Rd w a2 r.length 1 (ofL (fun x => [.bool x]) false r)) :
    Does Try.prog 38 #[.slice a l.length c, .slice a2 r.length c2] w fun v w' => v = .bool (decide (l = r)) ∧ Ext [] w w' := by
  refine does (args := [.slice a l.length c, .slice a2 r.length c2]) Try.func38 rfl (by kernel_rfl) (by kernel_rfl) rfl ent_38 (Sat.start w []) ?_; intro QV hQ
  by_cases h0 : l.length = r.length
  rotate_left
  · have h1 : ¬ (l.length : Int) = (r.length : Int) := by omega
    simp -implicitDefEqProofs (disch := omega) only [go_sem, h1, decide_false]
    exact hQ _ _ fun w' hs => ⟨by rw [dec_len h0], hs.anchor (by simp)⟩
  have h0' : (l.length : Int) = (r.length : Int) := by omega
  simp -implicitDefEqProofs (disch := omega) only [go_sem, h0', decide_true]
  refine RLoop_intro (fun f h => ∃ (i : Nat), i ≤ l.length ∧ l.take i = r.take i ∧ f 0 = .slice a l.length c ∧ f 1 = .slice a2 r.length c2 ∧ f 5 = .int .i64 (i : Int) ∧ h = [.anchor w []]) (fun f _ => (l.length - ival (f 5)).toNat) ?_ ?_
  · exact ⟨0, by omega, rfl, by (first | (simp -implicitDefEqProofs (disch := omega) only [go_sem]; done) | (simp -implicitDefEqProofs (disch := omega) only [go_sem]; rfl)), by (first | (simp -implicitDefEqProofs (disch := omega) only [go_sem]; done) | (simp -implicitDefEqProofs (disch := omega) only [go_sem]; rfl)), by (first | (simp -implicitDefEqProofs (disch := omega) only [go_sem]; done) | (simp -implicitDefEqProofs (disch := omega) only [go_sem]; rfl)), rfl⟩
  rintro f h ⟨i, hi, hf, e0, e1, e5, rfl⟩ Q' hQ'
  by_cases hil : i < l.length
  · have g1 : (i : Int) < (l.length : Int) := by omega
    have g1' : (i : Int) < (r.length : Int) := by omega
    obtain ⟨b, o, rfl, hb, hc⟩ := bools_at hr i hil
    obtain ⟨b2, o2, rfl, hb2, hc2⟩ := bools_at hr2 i (by omega)
    have ht := Dfa.take_succ l false i hil
    have ht2 := Dfa.take_succ r false i (by omega)
    have hget : l = r → l.getD i false = r.getD i false := fun h => by rw [h]
    generalize l.getD i false = t at *
    generalize r.getD i false = u at *
    simp -implicitDefEqProofs (disch := omega) only [go_sem, e0, e1, e5, g1, g1', decide_true]
    refine RDraw_seg (by kernel_rfl) (by kernel_rfl) 9 rfl ?_
    refine RS_det (by kernel_rfl) ?_
    by_cases h1 : t = u
    · subst h1
      repeat (first | refine ToO_step (fun Q hq => by (simp -implicitDefEqProofs (disch := omega) only [go_sem, e0, e1, e5, hc, hc2, decide_true, beq_self_eq_true]; exact hq)) ?_ | refine ToO_guard (by (simp -implicitDefEqProofs only [go_sem, e0, e1, e5, hc, hc2, decide_true, beq_self_eq_true]; first | done | fail)) (fun Q hq => by (simp -implicitDefEqProofs (disch := omega) only [go_sem, e0, e1, e5, hc, hc2, decide_true, beq_self_eq_true]; exact hq)) ?_ | refine ToO_skip (.inl (by (simp -implicitDefEqProofs only [go_sem, e0, e1, e5, hc, hc2, decide_true, beq_self_eq_true]; first | done | fail))) ?_ | refine ToO_skip (.inr (by (simp -implicitDefEqProofs only [go_sem, e0, e1, e5, hc, hc2, decide_true, beq_self_eq_true]; first | done | fail))) ?_)
      refine ToO_nil ?_
      simp -implicitDefEqProofs (disch := omega) only [go_sem, e0, e1, e5]
      refine hQ' _ _ _ (fun _ hs => hs) ⟨i + 1, by omega, ?_, ?_, ?_, ?_, rfl⟩ ?_
      · rw [ht, ht2, hf]
      · (first | (simp -implicitDefEqProofs (disch := omega) only [go_sem, e0, e1, e5]; done) | (simp -implicitDefEqProofs (disch := omega) only [go_sem, e0, e1, e5]; rfl))
      · (first | (simp -implicitDefEqProofs (disch := omega) only [go_sem, e0, e1, e5]; done) | (simp -implicitDefEqProofs (disch := omega) only [go_sem, e0, e1, e5]; rfl))
      · (first | (simp -implicitDefEqProofs (disch := omega) only [go_sem, e0, e1, e5]; done) | (simp -implicitDefEqProofs (disch := omega) only [go_sem, e0, e1, e5]; rfl))
      · simp -implicitDefEqProofs (disch := omega) only [go_sem, e0, e1, e5]; omega
    · have hne : (t == u) = false := by simpa using h1
      repeat (first | refine ToO_step (fun Q hq => by (simp -implicitDefEqProofs (disch := omega) only [go_sem, e0, e1, e5, hc, hc2, hne]; exact hq)) ?_ | refine ToO_guard (by (simp -implicitDefEqProofs only [go_sem, e0, e1, e5, hc, hc2, hne]; first | done | fail)) (fun Q hq => by (simp -implicitDefEqProofs (disch := omega) only [go_sem, e0, e1, e5, hc, hc2, hne]; exact hq)) ?_ | refine ToO_skip (.inl (by (simp -implicitDefEqProofs only [go_sem, e0, e1, e5, hc, hc2, hne]; first | done | fail))) ?_ | refine ToO_skip (.inr (by (simp -implicitDefEqProofs only [go_sem, e0, e1, e5, hc, hc2, hne]; first | done | fail))) ?_)
      refine ToO_nil ?_
      simp -implicitDefEqProofs (disch := omega) only [go_sem]
      exact hQ _ _ fun w' hs => ⟨by rw [decide_eq_false]; intro h; exact h1 (hget h), hs.anchor (by simp)⟩
  · have g1 : ¬ (i : Int) < (l.length : Int) := by omega
    have g1' : ¬ (i : Int) < (r.length : Int) := by omega
    rw [List.take_of_length_le (by omega), List.take_of_length_le (by omega)] at hf
    simp -implicitDefEqProofs (disch := omega) only [go_sem, e0, e1, e5, g1, g1', decide_false]
    exact hQ _ _ fun w' hs => ⟨by rw [decide_eq_true hf], hs.anchor (by simp)⟩

theorem same_no1 {d e : Dfa.D} (h : alike 256 d.cls e.cls = false) : Dfa.sameB d e = false := by unfold Dfa.sameB; rw [h]; rfl
theorem same_no2 {d e : Dfa.D} (h : ¬ d.next = e.next) : Dfa.sameB d e = false := by unfold Dfa.sameB; rw [decide_eq_false h]; simp
theorem same_no3 {d e : Dfa.D} (h : ¬ d.rules = e.rules) : Dfa.sameB d e = false := by unfold Dfa.sameB; rw [decide_eq_false h]; simp
theorem same_yes {d e : Dfa.D} (h : alike 256 d.cls e.cls = true) (h2 : d.next = e.next) (h3 : d.rules = e.rules) : Dfa.sameB d e = true := by unfold Dfa.sameB; rw [h, decide_eq_true h2, decide_eq_true h3]; rfl

set_option maxRecDepth 20000 in
set_option maxHeartbeats 2000000 in
theorem dfa_same (d e : Dfa.D) (w : World) (hm : Dfa.Mem w d) (he : Dfa.Mem w e) : Does Try.prog 41 #[d.val, e.val] w fun v w' => v = .bool (Dfa.sameB d e) ∧ Ext [] w w' := by
  unfold Dfa.D.val
  refine does (args := [.agg (List.toArray (Dfa.dC (Dfa.clsV d) (.slice d.a d.next.length d.c) (.slice d.ar d.rules.length d.cr))), .agg (List.toArray (Dfa.dC (Dfa.clsV e) (.slice e.a e.next.length e.c) (.slice e.ar e.rules.length e.cr)))]) Try.func41 rfl (by kernel_rfl) (by kernel_rfl) rfl ent_41 (Sat.start w []) ?_; intro QV hQ
  have hnl := hm.nlen
  have hnl2 := he.nlen
  have hul := hm.ulen
  have hul2 := he.ulen
  simp only [maxLen] at hnl hnl2 hul hul2
  simp -implicitDefEqProofs (disch := omega) only [go_sem]
  refine RNew_intro fun g hg => ?_
  simp only [below_cons, below_nil, under_anchor, and_true] at hg
  simp -implicitDefEqProofs (disch := omega) only [go_sem]
  refine RNew_intro fun g2 hg2 => ?_
  simp only [below_cons, below_nil, under_anchor, under_cells, and_true] at hg2
  cases h1 : alike 256 d.cls e.cls with
  | false =>
    simp -implicitDefEqProofs (disch := omega) only [go_sem, arr_cls, h1]
    exact hQ _ _ fun w' hs => ⟨by rw [same_no1 h1], hs.anchor (by simp)⟩
  | true =>
  by_cases h2 : d.next.length = e.next.length
  rotate_left
  · have h2' : ¬ (d.next.length : Int) = (e.next.length : Int) := by omega
    simp -implicitDefEqProofs (disch := omega) only [go_sem, arr_cls, h1, h2', decide_false]
    exact hQ _ _ fun w' hs => ⟨by rw [same_no2 fun h => h2 (by rw [h])], hs.anchor (by simp)⟩
  have h2' : (d.next.length : Int) = (e.next.length : Int) := by omega
  simp -implicitDefEqProofs (disch := omega) only [go_sem, arr_cls, h1, h2', decide_true]
  refine RCall_eqS (fun w1 hs => dfa_ints d.rules e.rules d.ar e.ar d.cr e.cr (by omega) (by omega) w1 (hm.rules.keep (hs.mem (.anchor w []) (by simp))) (he.rules.keep (hs.mem (.anchor w []) (by simp)))) ?_
  by_cases h3 : d.rules = e.rules
  rotate_left
  · simp -implicitDefEqProofs (disch := omega) only [go_sem, decide_eq_false h3]
    exact hQ _ _ fun w' hs => ⟨by rw [same_no3 h3], hs.anchor (by simp)⟩
  simp -implicitDefEqProofs (disch := omega) only [go_sem, decide_eq_true h3]
  generalize hH : [Res.cells g2 48 (List.toArray (Dfa.dC (Dfa.clsV e) (.slice e.a e.next.length e.c) (.slice e.ar e.rules.length e.cr))), Res.cells g 48 (List.toArray (Dfa.dC (Dfa.clsV d) (.slice d.a d.next.length d.c) (.slice d.ar d.rules.length d.cr))), .anchor w []] = H at *
  refine RLoop_intro (fun f h => ∃ (i : Nat), i ≤ d.next.length ∧ (∀ j, j < i → Dfa.row d j = Dfa.row e j) ∧ f 2 = .pointer (some ⟨g, 0, none⟩) ∧ f 3 = .pointer (some ⟨g2, 0, none⟩) ∧ f 30 = .int .i64 (d.next.length : Int) ∧ f 31 = .int .i64 (i : Int) ∧ h = H) (fun f _ => (d.next.length - ival (f 31)).toNat) ?_ ?_
  · exact ⟨0, by omega, by omega, by (first | (simp -implicitDefEqProofs (disch := omega) only [go_sem]; done) | (simp -implicitDefEqProofs (disch := omega) only [go_sem]; rfl)), by (first | (simp -implicitDefEqProofs (disch := omega) only [go_sem]; done) | (simp -implicitDefEqProofs (disch := omega) only [go_sem]; rfl)), by (first | (simp -implicitDefEqProofs (disch := omega) only [go_sem, h2']; done) | (simp -implicitDefEqProofs (disch := omega) only [go_sem, h2']; rfl)), by (first | (simp -implicitDefEqProofs (disch := omega) only [go_sem]; done) | (simp -implicitDefEqProofs (disch := omega) only [go_sem]; rfl)), by rw [← hH, h2]⟩
  rintro f h ⟨i, hi, hrows, e2, e3, e30, e31, rfl⟩ Q' hQ'
  subst hH
  by_cases hil : i < d.next.length
  rotate_left
  · have g1 : ¬ (i : Int) < (d.next.length : Int) := by omega
    simp -implicitDefEqProofs (disch := omega) only [go_sem, e2, e3, e30, e31, g1, decide_false]
    exact hQ _ _ fun w' hs => ⟨by rw [same_yes h1 (Dfa.next_ext h2 fun j hj => hrows j (by omega)) h3], hs.anchor (by simp)⟩
  have g1 : (i : Int) < (d.next.length : Int) := by omega
  obtain ⟨b1, o1, n1, hb1, hc1⟩ := Dfa.next_at hm i hil
  obtain ⟨b2, o2, n2, hb2, hc2⟩ := Dfa.next_at he i (by omega)
  have hr1 := hm.rlen i
  have hr2 := he.rlen i
  simp only [maxLen] at hr1 hr2
  rw [n1, n2]
  simp -implicitDefEqProofs (disch := omega) only [go_sem, e2, e3, e30, e31, g1, decide_true]
  refine RDraw_seg (by kernel_rfl) (by kernel_rfl) 12 rfl ?_
  refine RS_det (by kernel_rfl) ?_
  repeat (first | refine ToO_step (fun Q hq => by (simp -implicitDefEqProofs (disch := omega) only [go_sem, e2, e3, e30, e31, hc1, hc2]; exact hq)) ?_ | refine ToO_guard (by (simp -implicitDefEqProofs only [go_sem, e2, e3, e30, e31, hc1, hc2]; first | done | fail)) (fun Q hq => by (simp -implicitDefEqProofs (disch := omega) only [go_sem, e2, e3, e30, e31, hc1, hc2]; exact hq)) ?_ | refine ToO_skip (.inl (by (simp -implicitDefEqProofs only [go_sem, e2, e3, e30, e31, hc1, hc2]; first | done | fail))) ?_ | refine ToO_skip (.inr (by (simp -implicitDefEqProofs only [go_sem, e2, e3, e30, e31, hc1, hc2]; first | done | fail))) ?_)
  first | refine ToO_step (fun Q hq => by (simp -implicitDefEqProofs (disch := omega) only [go_sem]; refine RCall_eqS (fun w1 hs => dfa_ints (Dfa.row d i) (Dfa.row e i) (d.ra i) (e.ra i) (d.rc i) (e.rc i) (by omega) (by omega) w1 ((hm.rows i hil).keep (hs.mem (.anchor w []) (by simp))) ((he.rows i (by omega)).keep (hs.mem (.anchor w []) (by simp)))) ?_; simp -implicitDefEqProofs (disch := omega) only [go_sem]; exact hq)) ?_ | refine ToO_guard (by (simp -implicitDefEqProofs only [go_sem]; first | done | fail)) (fun Q hq => by (simp -implicitDefEqProofs (disch := omega) only [go_sem]; refine RCall_eqS (fun w1 hs => dfa_ints (Dfa.row d i) (Dfa.row e i) (d.ra i) (e.ra i) (d.rc i) (e.rc i) (by omega) (by omega) w1 ((hm.rows i hil).keep (hs.mem (.anchor w []) (by simp))) ((he.rows i (by omega)).keep (hs.mem (.anchor w []) (by simp)))) ?_; simp -implicitDefEqProofs (disch := omega) only [go_sem]; exact hq)) ?_
  by_cases h4 : Dfa.row d i = Dfa.row e i
  rotate_left
  · rw [decide_eq_false h4]
    repeat (first | refine ToO_step (fun Q hq => by (simp -implicitDefEqProofs (disch := omega) only [go_sem]; exact hq)) ?_ | refine ToO_guard (by (simp -implicitDefEqProofs only [go_sem]; first | done | fail)) (fun Q hq => by (simp -implicitDefEqProofs (disch := omega) only [go_sem]; exact hq)) ?_ | refine ToO_skip (.inl (by (simp -implicitDefEqProofs only [go_sem]; first | done | fail))) ?_ | refine ToO_skip (.inr (by (simp -implicitDefEqProofs only [go_sem]; first | done | fail))) ?_)
    refine ToO_nil ?_
    simp -implicitDefEqProofs (disch := omega) only [go_sem]
    exact hQ _ _ fun w' hs => ⟨by rw [same_no2 fun h => h4 (by unfold Dfa.row; rw [h])], hs.anchor (by simp)⟩
  rw [decide_eq_true h4]
  repeat (first | refine ToO_step (fun Q hq => by (simp -implicitDefEqProofs (disch := omega) only [go_sem]; exact hq)) ?_ | refine ToO_guard (by (simp -implicitDefEqProofs only [go_sem]; first | done | fail)) (fun Q hq => by (simp -implicitDefEqProofs (disch := omega) only [go_sem]; exact hq)) ?_ | refine ToO_skip (.inl (by (simp -implicitDefEqProofs only [go_sem]; first | done | fail))) ?_ | refine ToO_skip (.inr (by (simp -implicitDefEqProofs only [go_sem]; first | done | fail))) ?_)
  refine ToO_nil ?_
  simp -implicitDefEqProofs (disch := omega) only [go_sem, e2, e3, e30, e31]
  refine hQ' _ _ _ (fun _ hs => hs) ⟨i + 1, by omega, fun j hj => ?_, ?_, ?_, ?_, ?_, by rw [n1, n2]⟩ ?_
  · by_cases hji : j = i
    · subst hji; exact h4
    · exact hrows j (by omega)
  · (first | (simp -implicitDefEqProofs (disch := omega) only [go_sem, e2, e3, e30, e31]; done) | (simp -implicitDefEqProofs (disch := omega) only [go_sem, e2, e3, e30, e31]; rfl))
  · (first | (simp -implicitDefEqProofs (disch := omega) only [go_sem, e2, e3, e30, e31]; done) | (simp -implicitDefEqProofs (disch := omega) only [go_sem, e2, e3, e30, e31]; rfl))
  · (first | (simp -implicitDefEqProofs (disch := omega) only [go_sem, e2, e3, e30, e31]; done) | (simp -implicitDefEqProofs (disch := omega) only [go_sem, e2, e3, e30, e31]; rfl))
  · (first | (simp -implicitDefEqProofs (disch := omega) only [go_sem, e2, e3, e30, e31]; done) | (simp -implicitDefEqProofs (disch := omega) only [go_sem, e2, e3, e30, e31]; rfl))
  · simp -implicitDefEqProofs (disch := omega) only [go_sem, e2, e3, e30, e31]; omega
end Go.Proofs.Ytpdckakccegofaa
