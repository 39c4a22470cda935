/- The reference's Live: the walk. -/
import Derived.Test.YtpdckakccegofaaDfaE
import Derived.Test.YtpdckakccegofaaDfaL
namespace Go.Proofs.Ytpdckakccegofaa
set_option linter.unusedSimpArgs false
set_option linter.unusedVariables false
open H
attribute [go_sem] Dfa.bv_len Dfa.bv_get Dfa.bv_set
theorem bools_sl : slT Try.prog 54 4 1 1 := slT_of (by kernel_rfl)
theorem zero_bool : zeroT Try.prog 4 = some (.bool false) := by kernel_rfl
/-- A row's element, by the places. -/
theorem row_at {w : World} {d : Dfa.D} (hm : Dfa.Mem w d) {i j : Nat} (hi : i < d.next.length) (hj : j < (Dfa.row d i).length) : ∃ b o b2 o2, d.a = some ⟨b, o, none⟩ ∧ b < w.heap.size ∧ d.ra i = some ⟨b2, o2, none⟩ ∧ w.cell? ⟨b, o + i, none⟩ = some (.slice (some ⟨b2, o2, none⟩) (Dfa.row d i).length (d.rc i)) ∧ b2 < w.heap.size ∧ w.cell? ⟨b2, o2 + j, none⟩ = some (.int .i64 ((Dfa.row d i).getD j 0)) := by
  obtain ⟨b, o, e, hb, hc⟩ := Dfa.next_at hm i hi
  obtain ⟨b2, o2, e2, hb2, hc2⟩ := Dfa.ints_at (hm.rows i hi) j hj
  have hc' := hc
  rw [e2] at hc'
  exact ⟨b, o, b2, o2, e, hb, e2, hc', hb2, hc2⟩

set_option maxRecDepth 20000 in
set_option maxHeartbeats 4000000 in
theorem rdfa_live (d : Dfa.D) (w : World) (hm : Dfa.Mem w d) : Does Try.prog 40 #[d.val] w fun v w' => ∃ rs, Sat w' (rs ++ [.anchor w []]) ∧ ∃ l, Dfa.LiveOf d l ∧ Dfa.NewBools 4 v rs l := by
  unfold Dfa.D.val
  refine does (args := [.agg (List.toArray (Dfa.dC (Dfa.clsV d) (.slice d.a d.next.length d.c) (.slice d.ar d.rules.length d.cr)))]) Try.func40 rfl (by kernel_rfl) (by kernel_rfl) rfl ent_40 (Sat.start w []) ?_; intro QV hQ
  have hnl := hm.nlen
  have hul := hm.ulen
  simp only [maxLen] at hnl hul
  simp -implicitDefEqProofs (disch := omega) only [go_sem]
  refine RNew_intro fun g hg => ?_
  simp only [below_cons, below_nil, under_anchor, and_true] at hg
  simp -implicitDefEqProofs (disch := omega) only [go_sem]
  refine RCall_eqS (fun w1 hs => rdfa_right d w1 (hm.keep (hs.mem (.anchor w []) (by simp)))) ?_
  by_cases hR : Dfa.Right d
  rotate_left
  · simp -implicitDefEqProofs (disch := omega) only [go_sem, hR, decide_false]
    exact hQ _ _ fun w' hs => ⟨[], hs.2.2.2, [], by unfold Dfa.LiveOf; rw [if_neg hR], .inl ⟨rfl, rfl, rfl⟩⟩
  have hn1 := hR.1
  have hn2 := hR.2.1
  have hn3 := hR.2.2.1
  simp -implicitDefEqProofs (disch := omega) only [go_sem, hR, decide_true]
  refine RRun_make bools_sl zero_bool (by omega) (by omega) fun g2 hg2 => ?_
  rw [Nat.mul_one, Dfa.made_bools]
  simp only [below_cons, below_nil, under_anchor, under_cells, and_true] at hg2
  simp -implicitDefEqProofs (disch := omega) only [go_sem]
  have hD0 : ∃ D, D = [Res.cells g 48 (List.toArray (Dfa.dC (Dfa.clsV d) (.slice d.a d.next.length d.c) (.slice d.ar d.rules.length d.cr))), .anchor w []] := ⟨_, rfl⟩
  obtain ⟨D, hD⟩ := hD0
  rw [← hD]
  refine RLoop_intro (fun f h => ∃ (i : Nat) (o : List Bool), i ≤ d.next.length ∧ o.length = d.next.length ∧ (∀ k, o.getD k false = true ↔ (k < i ∧ 0 ≤ d.rules.getD k 0)) ∧ f 1 = .pointer (some ⟨g, 0, none⟩) ∧ f 3 = .slice (some ⟨g2, 0, none⟩) d.next.length d.next.length ∧ f 4 = .int .i64 (i : Int) ∧ h = .cells g2 4 (List.toArray (Dfa.bv o)) :: D) (fun f _ => (d.next.length - ival (f 4)).toNat) ?_ ?_
  · refine ⟨0, List.replicate d.next.length false, by omega, by simp, fun k => ?_, by (first | (simp -implicitDefEqProofs (disch := omega) only [go_sem]; done) | (simp -implicitDefEqProofs (disch := omega) only [go_sem]; rfl)), by (first | (simp -implicitDefEqProofs (disch := omega) only [go_sem]; done) | (simp -implicitDefEqProofs (disch := omega) only [go_sem]; rfl)), by (first | (simp -implicitDefEqProofs (disch := omega) only [go_sem]; done) | (simp -implicitDefEqProofs (disch := omega) only [go_sem]; rfl)), rfl⟩
    constructor
    · intro h
      rw [List.getD_eq_getElem?_getD, List.getElem?_replicate] at h
      split at h <;> simp at h
    · intro h; omega
  rintro f h ⟨i, o, hi, hol, ho, e1, e3, e4, rfl⟩ Q' hQ'
  by_cases hil : i < d.next.length
  · have g1 : (i : Int) < (d.next.length : Int) := by omega
    obtain ⟨br, or_, er, hbr, hcr⟩ := Dfa.ints_at hm.rules i (by omega)
    generalize hrv : d.rules.getD i 0 = rv at *
    have hiol : i < o.length := by omega
    rw [hD, er]
    simp -implicitDefEqProofs (disch := omega) only [go_sem, e1, e3, e4, g1, hcr, decide_true]
    refine hQ' _ _ _ (fun _ hs => hs) ⟨i + 1, o.set i (decide (0 ≤ rv)), by omega, by rw [List.length_set]; exact hol, fun k => ?_, ?_, ?_, ?_, by rw [hD, er]⟩ ?_
    · rw [Dfa.set_getD hiol]
      by_cases hki : k = i
      · subst hki; rw [if_pos rfl, hrv]; simp
      · rw [if_neg hki, ho k]; constructor <;> rintro ⟨h1, h2⟩ <;> exact ⟨by omega, h2⟩
    · (first | (simp -implicitDefEqProofs (disch := omega) only [go_sem, e1, e3, e4]; done) | (simp -implicitDefEqProofs (disch := omega) only [go_sem, e1, e3, e4]; rfl))
    · (first | (simp -implicitDefEqProofs (disch := omega) only [go_sem, e1, e3, e4]; done) | (simp -implicitDefEqProofs (disch := omega) only [go_sem, e1, e3, e4]; rfl))
    · (first | (simp -implicitDefEqProofs (disch := omega) only [go_sem, e1, e3, e4]; done) | (simp -implicitDefEqProofs (disch := omega) only [go_sem, e1, e3, e4]; rfl))
    · simp -implicitDefEqProofs (disch := omega) only [go_sem, e1, e3, e4]; omega
  have g1 : ¬ (i : Int) < (d.next.length : Int) := by omega
  simp -implicitDefEqProofs (disch := omega) only [go_sem, e1, e3, e4, g1, decide_false]
  have hbase : ∀ k, k < d.next.length → 0 ≤ d.rules.getD k 0 → o.getD k false = true := fun k h1 h2 => (ho k).2 ⟨by omega, h2⟩
  have hsound : ∀ k, k < d.next.length → o.getD k false = true → Dfa.Reach d k := fun k h1 h2 => .base k h1 ((ho k).1 h2).2
  clear ho hQ' hil g1 hi
  -- the passes
  refine RLoop_intro (fun f h => ∃ (b : Bool) (o : List Bool), o.length = d.next.length ∧ (∀ k, k < d.next.length → 0 ≤ d.rules.getD k 0 → o.getD k false = true) ∧ (∀ k, k < d.next.length → o.getD k false = true → Dfa.Reach d k) ∧ (b = false → ∀ i, i < d.next.length → ∀ j, j < (Dfa.row d i).length → o.getD ((Dfa.row d i).getD j 0).toNat false = true → o.getD i false = true) ∧
    f 1 = .pointer (some ⟨g, 0, none⟩) ∧ f 3 = .slice (some ⟨g2, 0, none⟩) d.next.length d.next.length ∧ f 5 = .bool b ∧ h = .cells g2 4 (List.toArray (Dfa.bv o)) :: D)
    (fun f h => 2 * Dfa.headCount h + Dfa.flag (f 5)) ?_ ?_
  · exact ⟨true, o, hol, hbase, hsound, by simp, by (first | (simp -implicitDefEqProofs (disch := omega) only [go_sem, e1, e3, e4]; done) | (simp -implicitDefEqProofs (disch := omega) only [go_sem, e1, e3, e4]; rfl)), by (first | (simp -implicitDefEqProofs (disch := omega) only [go_sem, e1, e3, e4]; done) | (simp -implicitDefEqProofs (disch := omega) only [go_sem, e1, e3, e4]; rfl)), by (first | (simp -implicitDefEqProofs (disch := omega) only [go_sem]; done) | (simp -implicitDefEqProofs (disch := omega) only [go_sem]; rfl)), rfl⟩
  clear hbase hsound hol e1 e3 e4
  rintro f h ⟨b, o, hol, hbase, hsound, hcl, e1, e3, e5, rfl⟩ Q' hQ'
  cases b with
  | false =>
    simp -implicitDefEqProofs (disch := omega) only [go_sem, e5]
    have hlive := Dfa.live_of hR hol hsound hbase (hcl rfl)
    simp -implicitDefEqProofs (disch := omega) only [go_sem, e1, e3, e5]
    rw [hD]
    exact hQ _ _ fun w' hs => ⟨[_], hs.drop2, o, hlive, .inr ⟨g2, by rw [hol], rfl⟩⟩
  | true =>
  clear hcl
  simp -implicitDefEqProofs (disch := omega) only [go_sem, e5]
  refine RLoop_intro (fun f h => ∃ (i : Nat) (b : Bool) (p : List Bool), i ≤ d.next.length ∧ p.length = d.next.length ∧ (∀ k, k < d.next.length → 0 ≤ d.rules.getD k 0 → p.getD k false = true) ∧ (∀ k, k < d.next.length → p.getD k false = true → Dfa.Reach d k) ∧
    (b = false → p = o ∧ ∀ k, k < i → ∀ j, j < (Dfa.row d k).length → o.getD ((Dfa.row d k).getD j 0).toNat false = true → o.getD k false = true) ∧ (b = true → Dfa.open_ p < Dfa.open_ o) ∧
    f 1 = .pointer (some ⟨g, 0, none⟩) ∧ f 3 = .slice (some ⟨g2, 0, none⟩) d.next.length d.next.length ∧ f 5 = .bool b ∧ f 6 = .int .i64 (i : Int) ∧ h = .cells g2 4 (List.toArray (Dfa.bv p)) :: D) (fun f _ => (d.next.length - ival (f 6)).toNat) ?_ ?_
  · exact ⟨0, false, o, by omega, hol, hbase, hsound, fun _ => ⟨rfl, fun k hk => absurd hk (by omega)⟩, by simp, by (first | (simp -implicitDefEqProofs (disch := omega) only [go_sem, e1]; done) | (simp -implicitDefEqProofs (disch := omega) only [go_sem, e1]; rfl)), by (first | (simp -implicitDefEqProofs (disch := omega) only [go_sem, e3]; done) | (simp -implicitDefEqProofs (disch := omega) only [go_sem, e3]; rfl)), by (first | (simp -implicitDefEqProofs (disch := omega) only [go_sem]; done) | (simp -implicitDefEqProofs (disch := omega) only [go_sem]; rfl)), by (first | (simp -implicitDefEqProofs (disch := omega) only [go_sem]; done) | (simp -implicitDefEqProofs (disch := omega) only [go_sem]; rfl)), rfl⟩
  rintro f h ⟨i, b, p, hi, hpl, hpb, hps, hp0, hp1, q1, q3, q5, q6, rfl⟩ Q2 hQ2
  by_cases hil : i < d.next.length
  rotate_left
  · have g1 : ¬ (i : Int) < (d.next.length : Int) := by omega
    simp -implicitDefEqProofs (disch := omega) only [go_sem, q1, q3, q5, q6, g1, decide_false]
    refine hQ' _ _ _ (fun _ hs => hs) ⟨b, p, hpl, hpb, hps, fun hb => ?_, ?_, ?_, ?_, rfl⟩ ?_
    · obtain ⟨rfl, hc⟩ := hp0 hb
      exact fun k hk => hc k (by omega)
    · (first | (simp -implicitDefEqProofs (disch := omega) only [go_sem, q1, q3, q5, q6]; done) | (simp -implicitDefEqProofs (disch := omega) only [go_sem, q1, q3, q5, q6]; rfl))
    · (first | (simp -implicitDefEqProofs (disch := omega) only [go_sem, q1, q3, q5, q6]; done) | (simp -implicitDefEqProofs (disch := omega) only [go_sem, q1, q3, q5, q6]; rfl))
    · (first | (simp -implicitDefEqProofs (disch := omega) only [go_sem, q1, q3, q5, q6]; done) | (simp -implicitDefEqProofs (disch := omega) only [go_sem, q1, q3, q5, q6]; rfl))
    · rw [Dfa.headCount_bv, Dfa.headCount_bv]
      cases b with
      | false => obtain ⟨rfl, _⟩ := hp0 rfl; simp -implicitDefEqProofs (disch := omega) only [go_sem, q1, q3, q5, q6, e5, Dfa.flag_t, Dfa.flag_f]; omega
      | true => have := hp1 rfl; simp -implicitDefEqProofs (disch := omega) only [go_sem, q1, q3, q5, q6, e5, Dfa.flag_t]; omega
  have g1 : (i : Int) < (d.next.length : Int) := by omega
  simp -implicitDefEqProofs (disch := omega) only [go_sem, q1, q3, q5, q6, g1, decide_true]
  refine RLoop_intro (fun f h => ∃ (j : Nat) (b : Bool) (p : List Bool), j ≤ (Dfa.row d i).length ∧ p.length = d.next.length ∧ (∀ k, k < d.next.length → 0 ≤ d.rules.getD k 0 → p.getD k false = true) ∧ (∀ k, k < d.next.length → p.getD k false = true → Dfa.Reach d k) ∧
    (b = false → p = o ∧ (∀ k, k < i → ∀ j, j < (Dfa.row d k).length → o.getD ((Dfa.row d k).getD j 0).toNat false = true → o.getD k false = true) ∧ ∀ k, k < j → o.getD ((Dfa.row d i).getD k 0).toNat false = true → o.getD i false = true) ∧ (b = true → Dfa.open_ p < Dfa.open_ o) ∧
    f 1 = .pointer (some ⟨g, 0, none⟩) ∧ f 3 = .slice (some ⟨g2, 0, none⟩) d.next.length d.next.length ∧ f 5 = .bool b ∧ f 6 = .int .i64 (i : Int) ∧ f 7 = .int .i64 (j : Int) ∧ h = .cells g2 4 (List.toArray (Dfa.bv p)) :: D) (fun f _ => ((Dfa.row d i).length - ival (f 7)).toNat) ?_ ?_
  · exact ⟨0, b, p, by omega, hpl, hpb, hps, fun hb => ⟨(hp0 hb).1, (hp0 hb).2, fun k hk => absurd hk (by omega)⟩, hp1, by (first | (simp -implicitDefEqProofs (disch := omega) only [go_sem, q1, q3, q5, q6]; done) | (simp -implicitDefEqProofs (disch := omega) only [go_sem, q1, q3, q5, q6]; rfl)), by (first | (simp -implicitDefEqProofs (disch := omega) only [go_sem, q1, q3, q5, q6]; done) | (simp -implicitDefEqProofs (disch := omega) only [go_sem, q1, q3, q5, q6]; rfl)), by (first | (simp -implicitDefEqProofs (disch := omega) only [go_sem, q1, q3, q5, q6]; done) | (simp -implicitDefEqProofs (disch := omega) only [go_sem, q1, q3, q5, q6]; rfl)), by (first | (simp -implicitDefEqProofs (disch := omega) only [go_sem, q1, q3, q5, q6]; done) | (simp -implicitDefEqProofs (disch := omega) only [go_sem, q1, q3, q5, q6]; rfl)), by (first | (simp -implicitDefEqProofs (disch := omega) only [go_sem]; done) | (simp -implicitDefEqProofs (disch := omega) only [go_sem]; rfl)), rfl⟩
  clear hpl hpb hps hp0 hp1
  rintro f h ⟨j, b, p, hj, hpl, hpb, hps, hp0, hp1, r1, r3, r5, r6, r7, rfl⟩ Q3 hQ3
  obtain ⟨bn, on, nn, hbn, hcn⟩ := Dfa.next_at hm i hil
  have hrl := hm.rlen i
  simp only [maxLen] at hrl
  by_cases hjl : j < (Dfa.row d i).length
  rotate_left
  · have g2' : ¬ (j : Int) < ((Dfa.row d i).length : Int) := by omega
    rw [hD, nn]
    simp -implicitDefEqProofs (disch := omega) only [go_sem, r1, r3, r5, r6, r7, hcn, g2', decide_false]
    rw [← nn, ← hD]
    refine hQ2 _ _ _ (fun _ hs => hs) ⟨i + 1, b, p, by omega, hpl, hpb, hps, fun hb => ⟨(hp0 hb).1, fun k hk => ?_⟩, hp1, ?_, ?_, ?_, ?_, rfl⟩ ?_
    · by_cases hki : k = i
      · subst hki; exact fun j' hj' => (hp0 hb).2.2 j' (by omega)
      · exact (hp0 hb).2.1 k (by omega)
    · (first | (simp -implicitDefEqProofs (disch := omega) only [go_sem, r1, r3, r5, r6, r7]; done) | (simp -implicitDefEqProofs (disch := omega) only [go_sem, r1, r3, r5, r6, r7]; rfl))
    · (first | (simp -implicitDefEqProofs (disch := omega) only [go_sem, r1, r3, r5, r6, r7]; done) | (simp -implicitDefEqProofs (disch := omega) only [go_sem, r1, r3, r5, r6, r7]; rfl))
    · (first | (simp -implicitDefEqProofs (disch := omega) only [go_sem, r1, r3, r5, r6, r7]; done) | (simp -implicitDefEqProofs (disch := omega) only [go_sem, r1, r3, r5, r6, r7]; rfl))
    · (first | (simp -implicitDefEqProofs (disch := omega) only [go_sem, r1, r3, r5, r6, r7]; done) | (simp -implicitDefEqProofs (disch := omega) only [go_sem, r1, r3, r5, r6, r7]; rfl))
    · simp -implicitDefEqProofs (disch := omega) only [go_sem, r1, r3, r5, r6, r7, q6]; omega
  have g2' : (j : Int) < ((Dfa.row d i).length : Int) := by omega
  obtain ⟨b1, o1, b2, o2, n1, hb1, n2, hc1, hb2, hc2⟩ := row_at hm hil hjl
  have hx := (hR.2.2.2.2 i hil).2.2.2 j hjl
  generalize hxv : (Dfa.row d i).getD j 0 = x at *
  have hpi : i < p.length := by omega
  have hpx : x.toNat < p.length := by omega
  rw [hD, n1]
  cases hoi : p.getD i false with
  | true =>
    simp -implicitDefEqProofs (disch := omega) only [go_sem, r1, r3, r5, r6, r7, hc1, g2', hoi, decide_true]
    rw [← n1, ← hD]
    refine hQ3 _ _ _ (fun _ hs => hs) ⟨j + 1, b, p, by omega, hpl, hpb, hps, fun hb => ⟨(hp0 hb).1, (hp0 hb).2.1, fun k hk h => ?_⟩, hp1, ?_, ?_, ?_, ?_, ?_, rfl⟩ ?_
    · rw [← (hp0 hb).1]; exact hoi
    · (first | (simp -implicitDefEqProofs (disch := omega) only [go_sem, r1, r3, r5, r6, r7]; done) | (simp -implicitDefEqProofs (disch := omega) only [go_sem, r1, r3, r5, r6, r7]; rfl))
    · (first | (simp -implicitDefEqProofs (disch := omega) only [go_sem, r1, r3, r5, r6, r7]; done) | (simp -implicitDefEqProofs (disch := omega) only [go_sem, r1, r3, r5, r6, r7]; rfl))
    · (first | (simp -implicitDefEqProofs (disch := omega) only [go_sem, r1, r3, r5, r6, r7]; done) | (simp -implicitDefEqProofs (disch := omega) only [go_sem, r1, r3, r5, r6, r7]; rfl))
    · (first | (simp -implicitDefEqProofs (disch := omega) only [go_sem, r1, r3, r5, r6, r7]; done) | (simp -implicitDefEqProofs (disch := omega) only [go_sem, r1, r3, r5, r6, r7]; rfl))
    · (first | (simp -implicitDefEqProofs (disch := omega) only [go_sem, r1, r3, r5, r6, r7]; done) | (simp -implicitDefEqProofs (disch := omega) only [go_sem, r1, r3, r5, r6, r7]; rfl))
    · simp -implicitDefEqProofs (disch := omega) only [go_sem, r1, r3, r5, r6, r7]; omega
  | false =>
    cases hox : p.getD x.toNat false with
    | false =>
      simp -implicitDefEqProofs (disch := omega) only [go_sem, r1, r3, r5, r6, r7, hc1, hc2, g2', hoi, hox, decide_true]
      rw [← n1, ← hD]
      refine hQ3 _ _ _ (fun _ hs => hs) ⟨j + 1, b, p, by omega, hpl, hpb, hps, fun hb => ⟨(hp0 hb).1, (hp0 hb).2.1, fun k hk h => ?_⟩, hp1, ?_, ?_, ?_, ?_, ?_, rfl⟩ ?_
      · by_cases hkj : k = j
        · subst hkj; rw [hxv, ← (hp0 hb).1, hox] at h; cases h
        · exact (hp0 hb).2.2 k (by omega) h
      · (first | (simp -implicitDefEqProofs (disch := omega) only [go_sem, r1, r3, r5, r6, r7]; done) | (simp -implicitDefEqProofs (disch := omega) only [go_sem, r1, r3, r5, r6, r7]; rfl))
      · (first | (simp -implicitDefEqProofs (disch := omega) only [go_sem, r1, r3, r5, r6, r7]; done) | (simp -implicitDefEqProofs (disch := omega) only [go_sem, r1, r3, r5, r6, r7]; rfl))
      · (first | (simp -implicitDefEqProofs (disch := omega) only [go_sem, r1, r3, r5, r6, r7]; done) | (simp -implicitDefEqProofs (disch := omega) only [go_sem, r1, r3, r5, r6, r7]; rfl))
      · (first | (simp -implicitDefEqProofs (disch := omega) only [go_sem, r1, r3, r5, r6, r7]; done) | (simp -implicitDefEqProofs (disch := omega) only [go_sem, r1, r3, r5, r6, r7]; rfl))
      · (first | (simp -implicitDefEqProofs (disch := omega) only [go_sem, r1, r3, r5, r6, r7]; done) | (simp -implicitDefEqProofs (disch := omega) only [go_sem, r1, r3, r5, r6, r7]; rfl))
      · simp -implicitDefEqProofs (disch := omega) only [go_sem, r1, r3, r5, r6, r7]; omega
    | true =>
      have hopen := Dfa.open_set hpi hoi
      simp -implicitDefEqProofs (disch := omega) only [go_sem, r1, r3, r5, r6, r7, hc1, hc2, g2', hoi, hox, decide_true]
      rw [← n1, ← hD]
      refine hQ3 _ _ _ (fun _ hs => hs) ⟨j + 1, true, p.set i true, by omega, by rw [List.length_set]; exact hpl, fun k hk hr => ?_, fun k hk hr => ?_, by simp, fun _ => ?_, ?_, ?_, ?_, ?_, ?_, rfl⟩ ?_
      · rw [Dfa.set_getD hpi]; split
        · rfl
        · exact hpb k hk hr
      · rw [Dfa.set_getD hpi] at hr
        split at hr
        · rename_i hki; subst hki
          exact .step k j hk hjl (by rw [hxv]; exact hps x.toNat (by omega) hox)
        · exact hps k hk hr
      · cases b with
        | false => rw [(hp0 rfl).1] at hopen ⊢; omega
        | true => have := hp1 rfl; omega
      · (first | (simp -implicitDefEqProofs (disch := omega) only [go_sem, r1, r3, r5, r6, r7]; done) | (simp -implicitDefEqProofs (disch := omega) only [go_sem, r1, r3, r5, r6, r7]; rfl))
      · (first | (simp -implicitDefEqProofs (disch := omega) only [go_sem, r1, r3, r5, r6, r7]; done) | (simp -implicitDefEqProofs (disch := omega) only [go_sem, r1, r3, r5, r6, r7]; rfl))
      · (first | (simp -implicitDefEqProofs (disch := omega) only [go_sem, r1, r3, r5, r6, r7]; done) | (simp -implicitDefEqProofs (disch := omega) only [go_sem, r1, r3, r5, r6, r7]; rfl))
      · (first | (simp -implicitDefEqProofs (disch := omega) only [go_sem, r1, r3, r5, r6, r7]; done) | (simp -implicitDefEqProofs (disch := omega) only [go_sem, r1, r3, r5, r6, r7]; rfl))
      · (first | (simp -implicitDefEqProofs (disch := omega) only [go_sem, r1, r3, r5, r6, r7]; done) | (simp -implicitDefEqProofs (disch := omega) only [go_sem, r1, r3, r5, r6, r7]; rfl))
      · simp -implicitDefEqProofs (disch := omega) only [go_sem, r1, r3, r5, r6, r7]; omega
end Go.Proofs.Ytpdckakccegofaa
