/- The program's Live: the walk. -/
import Derived.Test.YtpdckakccegofaaDfaF
import Derived.Test.YtpdckakccegofaaMany
namespace Go.Proofs.Ytpdckakccegofaa
set_option linter.unusedSimpArgs false
set_option linter.unusedVariables false
open H
theorem ints_sl : slT Try.prog 46 3 1 8 := slT_of (by kernel_rfl)
theorem intss_sl : slT Try.prog 45 46 1 24 := slT_of (by kernel_rfl)
theorem zero_ints : zeroT Try.prog 46 = some (.slice none 0 0) := by kernel_rfl
def iv (l : List Int) : List Value := l.map (.int .i64)
theorem iv_len (l : List Int) : (iv l).length = l.length := by simp [iv]
theorem iv_snoc (l : List Int) (x : Int) : iv l ++ [.int .i64 x] = iv (l ++ [x]) := by simp [iv]
theorem iv_get (l : List Int) (k : Nat) (h : k < l.length) : (iv l)[k]? = some (.int .i64 (l.getD k 0)) := by simp [iv, List.getD_eq_getElem?_getD, List.getElem?_eq_getElem h]
theorem right_row {d : Dfa.D} (hR : Dfa.Right d) {i : Nat} (hi : i < d.next.length) : (Dfa.row d i).length ≤ 256 := by
  have h1 := (hR.2.2.2.2 i hi).2.2.1
  have h2 := (Dfa.classes_ok d hR.2.2.2.1).2.1
  omega
/-- The lists of where edges come from, so far: up to edge j of state i. -/
structure From (d : Dfa.D) (zs : Nat → List Int) (i j : Nat) : Prop where
  sound : ∀ t, t < d.next.length → ∀ y ∈ zs t, 0 ≤ y ∧ y < d.next.length ∧ ∃ k, k < (Dfa.row d y.toNat).length ∧ ((Dfa.row d y.toNat).getD k 0).toNat = t
  old : ∀ k, k < i → ∀ m, m < (Dfa.row d k).length → (k : Int) ∈ zs ((Dfa.row d k).getD m 0).toNat
  new : ∀ m, m < j → (i : Int) ∈ zs ((Dfa.row d i).getD m 0).toNat
  few : ∀ t, (zs t).length ≤ 256 * i + j
theorem From.push {d : Dfa.D} {zs : Nat → List Int} {i j : Nat} (h : From d zs i j) (hi : i < d.next.length) (hj : j < (Dfa.row d i).length) : From d (fun t => if t = ((Dfa.row d i).getD j 0).toNat then zs t ++ [(i : Int)] else zs t) i (j + 1) := by
  refine ⟨fun t ht y hy => ?_, fun k hk m hm => ?_, fun m hm => ?_, fun t => ?_⟩
  · split at hy
    · rename_i htx
      rcases List.mem_append.1 hy with h1 | h1
      · exact h.sound t ht y h1
      · obtain rfl : y = (i : Int) := by simpa using h1
        exact ⟨by omega, by omega, j, by rw [Int.toNat_natCast]; exact hj, by rw [Int.toNat_natCast]; exact htx.symm⟩
    · exact h.sound t ht y hy
  · have := h.old k hk m hm
    split
    · exact List.mem_append.2 (.inl this)
    · exact this
  · by_cases hmj : m = j
    · subst hmj; rw [if_pos rfl]; simp
    · have := h.new m (by omega)
      split
      · exact List.mem_append.2 (.inl this)
      · exact this
  · have := h.few t
    split
    · rw [List.length_append]; simp only [List.length_cons, List.length_nil]; omega
    · omega
theorem From.next {d : Dfa.D} {zs : Nat → List Int} {i : Nat} (h : From d zs i (Dfa.row d i).length) (hl : (Dfa.row d i).length ≤ 256) : From d zs (i + 1) 0 := by
  refine ⟨h.sound, fun k hk m hm => ?_, fun m hm => absurd hm (by omega), fun t => by have := h.few t; omega⟩
  by_cases hki : k = i
  · subst hki; exact h.new m hm
  · exact h.old k (by omega) m hm

theorem iv_take (l : List Int) (m : Nat) : (iv l).take (m * 1) = iv (l.take m) := by simp [iv, List.map_take]
/-- The lists of where edges come from, as they stand in memory. -/
structure FromIn (d : Dfa.D) (zs : Nat → List Int) (vs : Nat → Value) (g2 g4 : Nat) (w w2 : World) : Prop where
  ext : Ext [] w w2
  cell : ∀ t, t < d.next.length → w2.cell? ⟨g2, t, none⟩ = some (vs t)
  lt : g2 < w2.heap.size
  ne : g2 ≠ g4
  rows : ∀ t, t < d.next.length → ∃ a c, vs t = .slice a (zs t).length c ∧ Rd w2 a (zs t).length 1 (Dfa.ints (zs t)) ∧ ∀ k, a.map (·.block) = some k → k ≠ g4
theorem FromIn.keep {d : Dfa.D} {zs : Nat → List Int} {vs : Nat → Value} {g2 g4 : Nat} {w w2 w3 : World} (h : FromIn d zs vs g2 g4 w w2) (hx : Ext [g4] w2 w3) (hg : w.heap.size ≤ g4) : FromIn d zs vs g2 g4 w w3 := by
  refine ⟨h.ext.back hx hg, fun t ht => ?_, Nat.lt_of_lt_of_le h.lt hx.size, h.ne, fun t ht => ?_⟩
  · rw [← h.cell t ht]; exact cell_of_block (hx.block g2 h.lt (by simpa using h.ne))
  · obtain ⟨a, c, h1, h2, h3⟩ := h.rows t ht
    exact ⟨a, c, h1, h2.keep1 hx h3, h3⟩

set_option maxRecDepth 20000 in
set_option maxHeartbeats 4000000 in
theorem dfa_live (d : Dfa.D) (w : World) (hm : Dfa.Mem w d) : Does Try.prog 39 #[d.val] w fun v w' => ∃ rs, Sat w' (rs ++ [.anchor w []]) ∧ ∃ l, Dfa.LiveOf d l ∧ Dfa.NewBools 4 v rs l := by
  unfold Dfa.D.val
  refine does (args := [.agg (List.toArray (Dfa.dC (Dfa.clsV d) (.slice d.a d.next.length d.c) (.slice d.ar d.rules.length d.cr)))]) Try.func39 rfl (by kernel_rfl) (by kernel_rfl) rfl ent_39 (Sat.start w []) ?_; intro QV hQ
  have hnl := hm.nlen
  have hul := hm.ulen
  simp only [maxLen] at hnl hul
  simp -implicitDefEqProofs (disch := omega) only [go_sem]
  refine RNew_intro fun g hg => ?_
  simp only [below_cons, below_nil, under_anchor, and_true] at hg
  simp -implicitDefEqProofs (disch := omega) only [go_sem]
  refine RCall_eqS (fun w1 hs => dfa_right d w1 (hm.keep (hs.mem (.anchor w []) (by simp)))) ?_
  by_cases hR : Dfa.Right d
  rotate_left
  · simp -implicitDefEqProofs (disch := omega) only [go_sem, hR, decide_false]
    exact hQ _ _ fun w' hs => ⟨[], hs.2.2.2, [], by unfold Dfa.LiveOf; rw [if_neg hR], .inl ⟨rfl, rfl, rfl⟩⟩
  have hn1 := hR.1
  have hn2 := hR.2.1
  have hn3 := hR.2.2.1
  simp -implicitDefEqProofs (disch := omega) only [go_sem, hR, decide_true]
  refine RRun_make intss_sl zero_ints (by omega) (by omega) fun g2 hg2 => ?_
  rw [Nat.mul_one, made_nils]
  simp only [below_cons, below_nil, under_anchor, under_cells, and_true] at hg2
  simp -implicitDefEqProofs (disch := omega) only [go_sem]
  have hD0 : ∃ D, D = [Res.cells g 48 (List.toArray (Dfa.dC (Dfa.clsV d) (.slice d.a d.next.length d.c) (.slice d.ar d.rules.length d.cr))), .anchor w []] := ⟨_, rfl⟩
  obtain ⟨D, hD⟩ := hD0
  rw [← hD]
  refine RLoop_from (fun f h => ∃ (i : Nat) (vs : Nat → Value) (zs : Nat → List Int), i ≤ d.next.length ∧ From d zs i 0 ∧ f 1 = .pointer (some ⟨g, 0, none⟩) ∧ f 3 = .slice (some ⟨g2, 0, none⟩) d.next.length d.next.length ∧ f 23 = .slice d.a d.next.length d.c ∧ f 24 = .int .i64 (d.next.length : Int) ∧ f 25 = .int .i64 (i : Int) ∧
    h = .cells g2 46 (List.toArray (vals d.next.length vs)) :: RowsOwn 3 (fun t => t < d.next.length) vs (fun t => iv (zs t)) :: D) (fun f _ => (d.next.length - ival (f 25)).toNat) ?_ ?_
  · intro w1 hs
    refine ⟨_, Sat.swap2 (Sat.rows_nil 3 (fun t => t < d.next.length) hs), 0, fun _ => .slice none 0 0, fun _ => [], by omega, ⟨by simp, by omega, by omega, by simp⟩, by (first | (simp -implicitDefEqProofs (disch := omega) only [go_sem]; done) | (simp -implicitDefEqProofs (disch := omega) only [go_sem]; rfl)), by (first | (simp -implicitDefEqProofs (disch := omega) only [go_sem]; done) | (simp -implicitDefEqProofs (disch := omega) only [go_sem]; rfl)), by (first | (simp -implicitDefEqProofs (disch := omega) only [go_sem]; done) | (simp -implicitDefEqProofs (disch := omega) only [go_sem]; rfl)), by (first | (simp -implicitDefEqProofs (disch := omega) only [go_sem]; done) | (simp -implicitDefEqProofs (disch := omega) only [go_sem]; rfl)), by (first | (simp -implicitDefEqProofs (disch := omega) only [go_sem]; done) | (simp -implicitDefEqProofs (disch := omega) only [go_sem]; rfl)), rfl⟩
  rintro f h ⟨i, vs, zs, hi, hF, e1, e3, e23, e24, e25, rfl⟩ Q' hQ'
  by_cases hil : i < d.next.length
  · have g1 : (i : Int) < (d.next.length : Int) := by omega
    obtain ⟨bn, on, nn, hbn, hcn⟩ := Dfa.next_at hm i hil
    have hrl := right_row hR hil
    rw [nn] at e23
    rw [hD]
    simp -implicitDefEqProofs (disch := omega) only [go_sem, e1, e3, e23, e24, e25, g1, hcn, decide_true]
    rw [← hD]
    refine RLoop_from (fun f h => ∃ (j : Nat) (vs : Nat → Value) (zs : Nat → List Int), j ≤ (Dfa.row d i).length ∧ From d zs i j ∧ f 1 = .pointer (some ⟨g, 0, none⟩) ∧ f 3 = .slice (some ⟨g2, 0, none⟩) d.next.length d.next.length ∧ f 4 = .int .i64 (i : Int) ∧ f 23 = .slice d.a d.next.length d.c ∧ f 24 = .int .i64 (d.next.length : Int) ∧ f 25 = .int .i64 (i : Int) ∧
      f 30 = .slice (d.ra i) (Dfa.row d i).length (d.rc i) ∧ f 31 = .int .i64 ((Dfa.row d i).length : Int) ∧ f 32 = .int .i64 (j : Int) ∧
      h = .cells g2 46 (List.toArray (vals d.next.length vs)) :: RowsOwn 3 (fun t => t < d.next.length) vs (fun t => iv (zs t)) :: D) (fun f _ => ((Dfa.row d i).length - ival (f 32)).toNat) ?_ ?_
    · exact fun w1 hs => ⟨_, hs, 0, vs, zs, by omega, hF, by (first | (simp -implicitDefEqProofs (disch := omega) only [go_sem, e1, e3, e23, e24, e25]; done) | (simp -implicitDefEqProofs (disch := omega) only [go_sem, e1, e3, e23, e24, e25]; rfl)), by (first | (simp -implicitDefEqProofs (disch := omega) only [go_sem, e1, e3, e23, e24, e25]; done) | (simp -implicitDefEqProofs (disch := omega) only [go_sem, e1, e3, e23, e24, e25]; rfl)), by (first | (simp -implicitDefEqProofs (disch := omega) only [go_sem, e1, e3, e23, e24, e25]; done) | (simp -implicitDefEqProofs (disch := omega) only [go_sem, e1, e3, e23, e24, e25]; rfl)), by (first | (simp -implicitDefEqProofs (disch := omega) only [go_sem, e1, e3, e23, e24, e25, nn]; done) | (simp -implicitDefEqProofs (disch := omega) only [go_sem, e1, e3, e23, e24, e25, nn]; rfl)), by (first | (simp -implicitDefEqProofs (disch := omega) only [go_sem, e1, e3, e23, e24, e25]; done) | (simp -implicitDefEqProofs (disch := omega) only [go_sem, e1, e3, e23, e24, e25]; rfl)), by (first | (simp -implicitDefEqProofs (disch := omega) only [go_sem, e1, e3, e23, e24, e25]; done) | (simp -implicitDefEqProofs (disch := omega) only [go_sem, e1, e3, e23, e24, e25]; rfl)), by (first | (simp -implicitDefEqProofs (disch := omega) only [go_sem, e1, e3, e23, e24, e25]; done) | (simp -implicitDefEqProofs (disch := omega) only [go_sem, e1, e3, e23, e24, e25]; rfl)), by (first | (simp -implicitDefEqProofs (disch := omega) only [go_sem, e1, e3, e23, e24, e25]; done) | (simp -implicitDefEqProofs (disch := omega) only [go_sem, e1, e3, e23, e24, e25]; rfl)), by (first | (simp -implicitDefEqProofs (disch := omega) only [go_sem]; done) | (simp -implicitDefEqProofs (disch := omega) only [go_sem]; rfl)), by rw [hD, nn]⟩
    clear hF vs zs
    rintro f h ⟨j, vs, zs, hj, hF, q1, q3, q4, q23, q24, q25, q30, q31, q32, rfl⟩ Q2 hQ2
    by_cases hjl : j < (Dfa.row d i).length
    rotate_left
    · have g2' : ¬ (j : Int) < ((Dfa.row d i).length : Int) := by omega
      obtain rfl : j = (Dfa.row d i).length := by omega
      simp -implicitDefEqProofs (disch := omega) only [go_sem, q1, q3, q4, q23, q24, q25, q30, q31, q32, g2', decide_false]
      refine hQ' _ _ fun w1 hs => ⟨_, hs, ⟨i + 1, vs, zs, by omega, hF.next hrl, ?_, ?_, ?_, ?_, ?_, rfl⟩, ?_⟩
      · (first | (simp -implicitDefEqProofs (disch := omega) only [go_sem, q1, q3, q4, q23, q24, q25, q30, q31, q32]; done) | (simp -implicitDefEqProofs (disch := omega) only [go_sem, q1, q3, q4, q23, q24, q25, q30, q31, q32]; rfl))
      · (first | (simp -implicitDefEqProofs (disch := omega) only [go_sem, q1, q3, q4, q23, q24, q25, q30, q31, q32]; done) | (simp -implicitDefEqProofs (disch := omega) only [go_sem, q1, q3, q4, q23, q24, q25, q30, q31, q32]; rfl))
      · (first | (simp -implicitDefEqProofs (disch := omega) only [go_sem, q1, q3, q4, q23, q24, q25, q30, q31, q32, nn]; done) | (simp -implicitDefEqProofs (disch := omega) only [go_sem, q1, q3, q4, q23, q24, q25, q30, q31, q32, nn]; rfl))
      · (first | (simp -implicitDefEqProofs (disch := omega) only [go_sem, q1, q3, q4, q23, q24, q25, q30, q31, q32]; done) | (simp -implicitDefEqProofs (disch := omega) only [go_sem, q1, q3, q4, q23, q24, q25, q30, q31, q32]; rfl))
      · (first | (simp -implicitDefEqProofs (disch := omega) only [go_sem, q1, q3, q4, q23, q24, q25, q30, q31, q32]; done) | (simp -implicitDefEqProofs (disch := omega) only [go_sem, q1, q3, q4, q23, q24, q25, q30, q31, q32]; rfl))
      · simp -implicitDefEqProofs (disch := omega) only [go_sem, q1, q3, q4, q23, q24, q25, q30, q31, q32, e25]; omega
    have g2' : (j : Int) < ((Dfa.row d i).length : Int) := by omega
    obtain ⟨b1, o1, b2, o2, n1, hb1, n2, hc1, hb2, hc2⟩ := row_at hm hil hjl
    have hx := (hR.2.2.2.2 i hil).2.2.2 j hjl
    have hpush := hF.push hil hjl
    have hfew := hF.few ((Dfa.row d i).getD j 0).toNat
    generalize hxv : (Dfa.row d i).getD j 0 = x at *
    obtain ⟨t, rfl⟩ := Int.eq_ofNat_of_zero_le hx.1
    rw [Int.toNat_natCast] at hpush hfew
    have htl : t < d.next.length := by omega
    rw [n2] at q30
    rw [hD]
    simp -implicitDefEqProofs (disch := omega) only [go_sem, q1, q3, q4, q23, q24, q25, q30, q31, q32, g2', hc2, decide_true]
    refine RRun_build1 ints_sl rfl fun g3 hg3 => ?_
    simp only [below_cons, below_nil, under_anchor, under_cells, and_true] at hg3
    simp -implicitDefEqProofs (disch := omega) only [go_sem]
    refine RRun_append_cells (v := vs t) (n := (iv (zs t)).length) (xs := iv (zs t)) (cs := [.int .i64 (i : Int)]) ints_sl (fun w1 hs => ((hs.2.2.2.swap2).rows_split t htl).perm (List.Perm.cons _ (List.Perm.swap ..))) rfl (fun u hu => by simp at hu; subst hu; rfl) (by rw [iv_len]; omega) (by simp only [maxLen]; rw [iv_len]; omega) fun a' c' hc' => ?_
    simp -implicitDefEqProofs (disch := omega) only [go_sem, q1, q3, q4, q23, q24, q25, q30, q31, q32]
    rw [← hD]
    have hxs : (fun k => if k = t then iv (zs t) ++ [Value.int .i64 (i : Int)] else iv (zs k)) = fun k => iv (if k = t then zs k ++ [(i : Int)] else zs k) := by
      funext k
      by_cases hk : k = t
      · subst hk; simp only [if_true, iv_snoc]
      · simp only [if_neg hk]
    refine hQ2 _ _ fun w1 hs => ⟨_, ((hs.perm (List.Perm.cons _ (List.Perm.swap ..))).rows_join t).swap2, ⟨j + 1, fun k => if k = t then .slice a' ((iv (zs t)).length + 1) c' else vs k, fun k => if k = t then zs k ++ [(i : Int)] else zs k, by omega, hpush, ?_, ?_, ?_, ?_, ?_, ?_, ?_, ?_, ?_, by rw [hxs]⟩, ?_⟩
    · (first | (simp -implicitDefEqProofs (disch := omega) only [go_sem, q1, q3, q4, q23, q24, q25, q30, q31, q32]; done) | (simp -implicitDefEqProofs (disch := omega) only [go_sem, q1, q3, q4, q23, q24, q25, q30, q31, q32]; rfl))
    · (first | (simp -implicitDefEqProofs (disch := omega) only [go_sem, q1, q3, q4, q23, q24, q25, q30, q31, q32]; done) | (simp -implicitDefEqProofs (disch := omega) only [go_sem, q1, q3, q4, q23, q24, q25, q30, q31, q32]; rfl))
    · (first | (simp -implicitDefEqProofs (disch := omega) only [go_sem, q1, q3, q4, q23, q24, q25, q30, q31, q32]; done) | (simp -implicitDefEqProofs (disch := omega) only [go_sem, q1, q3, q4, q23, q24, q25, q30, q31, q32]; rfl))
    · (first | (simp -implicitDefEqProofs (disch := omega) only [go_sem, q1, q3, q4, q23, q24, q25, q30, q31, q32]; done) | (simp -implicitDefEqProofs (disch := omega) only [go_sem, q1, q3, q4, q23, q24, q25, q30, q31, q32]; rfl))
    · (first | (simp -implicitDefEqProofs (disch := omega) only [go_sem, q1, q3, q4, q23, q24, q25, q30, q31, q32]; done) | (simp -implicitDefEqProofs (disch := omega) only [go_sem, q1, q3, q4, q23, q24, q25, q30, q31, q32]; rfl))
    · (first | (simp -implicitDefEqProofs (disch := omega) only [go_sem, q1, q3, q4, q23, q24, q25, q30, q31, q32]; done) | (simp -implicitDefEqProofs (disch := omega) only [go_sem, q1, q3, q4, q23, q24, q25, q30, q31, q32]; rfl))
    · (first | (simp -implicitDefEqProofs (disch := omega) only [go_sem, q1, q3, q4, q23, q24, q25, q30, q31, q32, n2]; done) | (simp -implicitDefEqProofs (disch := omega) only [go_sem, q1, q3, q4, q23, q24, q25, q30, q31, q32, n2]; rfl))
    · (first | (simp -implicitDefEqProofs (disch := omega) only [go_sem, q1, q3, q4, q23, q24, q25, q30, q31, q32]; done) | (simp -implicitDefEqProofs (disch := omega) only [go_sem, q1, q3, q4, q23, q24, q25, q30, q31, q32]; rfl))
    · (first | (simp -implicitDefEqProofs (disch := omega) only [go_sem, q1, q3, q4, q23, q24, q25, q30, q31, q32]; done) | (simp -implicitDefEqProofs (disch := omega) only [go_sem, q1, q3, q4, q23, q24, q25, q30, q31, q32]; rfl))
    · simp -implicitDefEqProofs (disch := omega) only [go_sem, q1, q3, q4, q23, q24, q25, q30, q31, q32]; omega
  have g1 : ¬ (i : Int) < (d.next.length : Int) := by omega
  obtain rfl : i = d.next.length := by omega
  rw [hD]
  simp -implicitDefEqProofs (disch := omega) only [go_sem, e1, e3, e23, e24, e25, g1, decide_false]
  rw [← hD]
  refine RRun_make bools_sl zero_bool (by omega) (by omega) fun g4 hg4 => ?_
  rw [Nat.mul_one, Dfa.made_bools]
  rw [hD] at hg4
  simp only [below_cons, below_nil, under_anchor, under_cells, and_true] at hg4
  rw [hD]
  simp -implicitDefEqProofs (disch := omega) only [go_sem, e1]
  rw [← hD]
  clear hQ' hi g1 e23 e24 e25
  have hopen0 : Dfa.open_ (List.replicate d.next.length false) = d.next.length := by unfold Dfa.open_; rw [List.countP_replicate]; simp
  -- what stands from here on
  refine RLoop_from (fun f h => ∃ (w2 : World) (i : Nat) (o : List Bool) (ls : List Int) (a : Option Addr) (c : Nat), FromIn d zs vs g2 g4 w w2 ∧ i ≤ d.next.length ∧ o.length = d.next.length ∧ (∀ k, o.getD k false = true ↔ (k < i ∧ 0 ≤ d.rules.getD k 0)) ∧
    (∀ k, k < i → 0 ≤ d.rules.getD k 0 → (k : Int) ∈ ls) ∧ (∀ y ∈ ls, 0 ≤ y ∧ y < d.next.length ∧ o.getD y.toNat false = true) ∧ ls.length + Dfa.open_ o = d.next.length ∧ ls.length ≤ c ∧
    f 3 = .slice (some ⟨g2, 0, none⟩) d.next.length d.next.length ∧ f 8 = .slice (some ⟨g4, 0, none⟩) d.next.length d.next.length ∧ f 9 = .slice a ls.length c ∧ f 53 = .slice d.ar d.rules.length d.cr ∧ f 54 = .int .i64 (d.next.length : Int) ∧ f 55 = .int .i64 (i : Int) ∧
    h = [Own 3 1 (.slice a ls.length c) ls.length (iv ls), .cells g4 4 (List.toArray (Dfa.bv o)), .anchor w2 [g4]]) (fun f _ => (d.next.length - ival (f 55)).toNat) ?_ ?_
  · intro w2 hs
    have hx : Ext [] w w2 := hs.mem (.anchor w []) (by rw [hD]; simp)
    have hc2 : Row w2 g2 46 (List.toArray (vals d.next.length vs)) := hs.mem (.cells g2 46 (List.toArray (vals d.next.length vs))) (by simp)
    have hlt2 : g2 < w2.heap.size := hs.lt (.cells g2 46 (List.toArray (vals d.next.length vs))) (by simp) g2 rfl
    have hrows : RowsP 3 (fun t => t < d.next.length) vs (fun t => iv (zs t)) w2 := hs.mem (RowsOwn 3 (fun t => t < d.next.length) vs (fun t => iv (zs t))) (by simp)
    have hg24 : g2 ≠ g4 := by omega
    have hdis := hs.2.2.1
    refine ⟨_, hs.reanchor.own_nil 3 1, w2, 0, List.replicate d.next.length false, [], none, 0, ⟨hx, fun t ht => ?_, hlt2, hg24, fun t ht => ?_⟩, by omega, by simp, fun k => ?_, by omega, by simp, by rw [hopen0]; simp, Nat.le_refl _, by (first | (simp -implicitDefEqProofs (disch := omega) only [go_sem, e1, e3]; done) | (simp -implicitDefEqProofs (disch := omega) only [go_sem, e1, e3]; rfl)), by (first | (simp -implicitDefEqProofs (disch := omega) only [go_sem]; done) | (simp -implicitDefEqProofs (disch := omega) only [go_sem]; rfl)), by (first | (simp -implicitDefEqProofs (disch := omega) only [go_sem]; done) | (simp -implicitDefEqProofs (disch := omega) only [go_sem]; rfl)), by (first | (simp -implicitDefEqProofs (disch := omega) only [go_sem]; done) | (simp -implicitDefEqProofs (disch := omega) only [go_sem]; rfl)), by (first | (simp -implicitDefEqProofs (disch := omega) only [go_sem, hn3]; done) | (simp -implicitDefEqProofs (disch := omega) only [go_sem, hn3]; rfl)), by (first | (simp -implicitDefEqProofs (disch := omega) only [go_sem]; done) | (simp -implicitDefEqProofs (disch := omega) only [go_sem]; rfl)), rfl⟩
    · rw [cell_cells hc2 rfl, if_pos rfl, List.getElem?_toArray, vals_get _ _ _ ht]
    · obtain ⟨a, c, h1, h2, h3, h4⟩ := rows_rd hrows t ht
      rw [iv_len] at h1 h3
      refine ⟨a, c, h1, h3.congr fun k hk => ?_, fun k hk hkg => ?_⟩
      · simp only [Dfa.ints, ofL]
        rw [List.getD_eq_getElem?_getD, iv_get _ _ hk]; rfl
      · exact hdis (RowsOwn 3 (fun t => t < d.next.length) vs (fun t => iv (zs t))) (by simp) k hkg ⟨t, ht, h4 k hk⟩
    · constructor
      · intro h
        rw [List.getD_eq_getElem?_getD, List.getElem?_replicate] at h
        split at h <;> simp at h
      · intro h; omega
  clear e1 e3 hil
  rintro f h ⟨w2, i, o, ls, a, c, hfi, hi, hol, ho, hls, hlo, hcnt, hlc, e3, e8, e9, e53, e54, e55, rfl⟩ Q' hQ'
  have hwsz := hfi.ext.size
  have hg2lt := hfi.lt
  have hg24 := hfi.ne
  by_cases hil : i < d.next.length
  · have g1 : (i : Int) < (d.next.length : Int) := by omega
    obtain ⟨br, or_, er, hbr, hcr⟩ := Dfa.ints_at hm.rules i (by omega)
    have hcr2 : w2.cell? ⟨br, or_ + i, none⟩ = some (.int .i64 (d.rules.getD i 0)) := by rw [← hcr]; exact cell_of_block (hfi.ext.block br hbr (by simp))
    have hoi : o.getD i false = false := by
      cases hb : o.getD i false with
      | false => rfl
      | true => have := (ho i).1 hb; omega
    generalize hrv : d.rules.getD i 0 = rv at *
    have hiol : i < o.length := by omega
    have hopen := Dfa.open_set hiol hoi
    rw [er] at e53
    by_cases h1 : (-1 : Int) < rv
    · simp -implicitDefEqProofs (disch := omega) only [go_sem, e3, e8, e9, e53, e54, e55, g1, hcr2, h1, decide_true]
      refine RRun_build1 ints_sl rfl fun g5 hg5 => ?_
      simp -implicitDefEqProofs (disch := omega) only [go_sem]
      refine RRun_append_cells (n := ls.length) (xs := iv ls) (cs := [.int .i64 (i : Int)]) ints_sl (fun w1 hs => hs.2.2.2) rfl (fun u hu => by simp at hu; subst hu; rfl) (by omega) (by simp only [maxLen]; omega) fun a' c' hc' => ?_
      simp -implicitDefEqProofs (disch := omega) only [go_sem, e3, e8, e9, e53, e54, e55]
      refine hQ' _ _ fun w1 hs => ⟨_, hs, ⟨w2, i + 1, o.set i true, ls ++ [(i : Int)], a', c', hfi, by omega, by rw [List.length_set]; exact hol, fun k => ?_, fun k hk hr => ?_, fun y hy => ?_, by rw [List.length_append]; simp only [List.length_cons, List.length_nil]; omega, by rw [List.length_append]; exact hc', ?_, ?_, ?_, ?_, ?_, ?_, ?_⟩, ?_⟩
      · rw [Dfa.set_getD hiol]
        by_cases hki : k = i
        · subst hki; rw [if_pos rfl, hrv]; simp; omega
        · rw [if_neg hki, ho k]; constructor <;> rintro ⟨h1, h2⟩ <;> exact ⟨by omega, h2⟩
      · by_cases hki : k = i
        · subst hki; simp
        · exact List.mem_append.2 (.inl (hls k (by omega) hr))
      · rcases List.mem_append.1 hy with h2 | h2
        · obtain ⟨k1, k2, k3⟩ := hlo y h2
          refine ⟨k1, k2, ?_⟩
          rw [Dfa.set_getD hiol]; split
          · rfl
          · exact k3
        · obtain rfl : y = (i : Int) := by simpa using h2
          refine ⟨by omega, by omega, ?_⟩
          rw [Dfa.set_getD hiol, Int.toNat_natCast, if_pos rfl]
      · (first | (simp -implicitDefEqProofs (disch := omega) only [go_sem, e3, e8, e9, e53, e54, e55]; done) | (simp -implicitDefEqProofs (disch := omega) only [go_sem, e3, e8, e9, e53, e54, e55]; rfl))
      · (first | (simp -implicitDefEqProofs (disch := omega) only [go_sem, e3, e8, e9, e53, e54, e55]; done) | (simp -implicitDefEqProofs (disch := omega) only [go_sem, e3, e8, e9, e53, e54, e55]; rfl))
      · simp -implicitDefEqProofs (disch := omega) only [go_sem, e3, e8, e9, e53, e54, e55]; rw [List.length_append]; rfl
      · (first | (simp -implicitDefEqProofs (disch := omega) only [go_sem, e3, e8, e9, e53, e54, e55, er]; done) | (simp -implicitDefEqProofs (disch := omega) only [go_sem, e3, e8, e9, e53, e54, e55, er]; rfl))
      · (first | (simp -implicitDefEqProofs (disch := omega) only [go_sem, e3, e8, e9, e53, e54, e55]; done) | (simp -implicitDefEqProofs (disch := omega) only [go_sem, e3, e8, e9, e53, e54, e55]; rfl))
      · (first | (simp -implicitDefEqProofs (disch := omega) only [go_sem, e3, e8, e9, e53, e54, e55]; done) | (simp -implicitDefEqProofs (disch := omega) only [go_sem, e3, e8, e9, e53, e54, e55]; rfl))
      · rw [iv_snoc, List.length_append]; rfl
      · simp -implicitDefEqProofs (disch := omega) only [go_sem, e3, e8, e9, e53, e54, e55]; omega
    · simp -implicitDefEqProofs (disch := omega) only [go_sem, e3, e8, e9, e53, e54, e55, g1, hcr2, h1, decide_true, decide_false]
      refine hQ' _ _ fun w1 hs => ⟨_, hs, ⟨w2, i + 1, o, ls, a, c, hfi, by omega, hol, fun k => ?_, fun k hk hr => ?_, hlo, hcnt, hlc, ?_, ?_, ?_, ?_, ?_, ?_, rfl⟩, ?_⟩
      · rw [ho k]
        constructor
        · rintro ⟨k1, k2⟩; exact ⟨by omega, k2⟩
        · rintro ⟨k1, k2⟩
          refine ⟨?_, k2⟩
          by_cases hki : k = i
          · subst hki; rw [hrv] at k2; omega
          · omega
      · by_cases hki : k = i
        · subst hki; rw [hrv] at hr; omega
        · exact hls k (by omega) hr
      · (first | (simp -implicitDefEqProofs (disch := omega) only [go_sem, e3, e8, e9, e53, e54, e55]; done) | (simp -implicitDefEqProofs (disch := omega) only [go_sem, e3, e8, e9, e53, e54, e55]; rfl))
      · (first | (simp -implicitDefEqProofs (disch := omega) only [go_sem, e3, e8, e9, e53, e54, e55]; done) | (simp -implicitDefEqProofs (disch := omega) only [go_sem, e3, e8, e9, e53, e54, e55]; rfl))
      · (first | (simp -implicitDefEqProofs (disch := omega) only [go_sem, e3, e8, e9, e53, e54, e55]; done) | (simp -implicitDefEqProofs (disch := omega) only [go_sem, e3, e8, e9, e53, e54, e55]; rfl))
      · (first | (simp -implicitDefEqProofs (disch := omega) only [go_sem, e3, e8, e9, e53, e54, e55, er]; done) | (simp -implicitDefEqProofs (disch := omega) only [go_sem, e3, e8, e9, e53, e54, e55, er]; rfl))
      · (first | (simp -implicitDefEqProofs (disch := omega) only [go_sem, e3, e8, e9, e53, e54, e55]; done) | (simp -implicitDefEqProofs (disch := omega) only [go_sem, e3, e8, e9, e53, e54, e55]; rfl))
      · (first | (simp -implicitDefEqProofs (disch := omega) only [go_sem, e3, e8, e9, e53, e54, e55]; done) | (simp -implicitDefEqProofs (disch := omega) only [go_sem, e3, e8, e9, e53, e54, e55]; rfl))
      · simp -implicitDefEqProofs (disch := omega) only [go_sem, e3, e8, e9, e53, e54, e55]; omega
  have g1 : ¬ (i : Int) < (d.next.length : Int) := by omega
  simp -implicitDefEqProofs (disch := omega) only [go_sem, e3, e8, e9, e53, e54, e55, g1, decide_false]
  have hbase : ∀ k, k < d.next.length → 0 ≤ d.rules.getD k 0 → o.getD k false = true := fun k h1 h2 => (ho k).2 ⟨by omega, h2⟩
  have hsound : ∀ k, k < d.next.length → o.getD k false = true → Dfa.Reach d k := fun k h1 h2 => .base k h1 ((ho k).1 h2).2
  have hclosed : ∀ i, i < d.next.length → ∀ j, j < (Dfa.row d i).length → o.getD ((Dfa.row d i).getD j 0).toNat false = true → (Dfa.row d i).getD j 0 ∈ ls ∨ o.getD i false = true := by
    intro p hp j hj h
    have hx := (hR.2.2.2.2 p hp).2.2.2 j hj
    obtain ⟨k1, k2⟩ := (ho _).1 h
    have := hls _ k1 k2
    rw [show ((((Dfa.row d p).getD j 0).toNat : Nat) : Int) = (Dfa.row d p).getD j 0 by omega] at this
    exact .inl this
  refine RLoop_from (fun f h => ∃ (w3 : World) (o : List Bool) (ls : List Int) (a : Option Addr) (c : Nat), Sat w3 [Own 3 1 (.slice a ls.length c) ls.length (iv ls), .cells g4 4 (List.toArray (Dfa.bv o)), .anchor w2 [g4]] ∧ o.length = d.next.length ∧ (∀ k, k < d.next.length → 0 ≤ d.rules.getD k 0 → o.getD k false = true) ∧ (∀ k, k < d.next.length → o.getD k false = true → Dfa.Reach d k) ∧
    (∀ i, i < d.next.length → ∀ j, j < (Dfa.row d i).length → o.getD ((Dfa.row d i).getD j 0).toNat false = true → (Dfa.row d i).getD j 0 ∈ ls ∨ o.getD i false = true) ∧ (∀ y ∈ ls, 0 ≤ y ∧ y < d.next.length ∧ o.getD y.toNat false = true) ∧ ls.length + Dfa.open_ o ≤ d.next.length ∧ ls.length ≤ c ∧
    f 3 = .slice (some ⟨g2, 0, none⟩) d.next.length d.next.length ∧ f 8 = .slice (some ⟨g4, 0, none⟩) d.next.length d.next.length ∧ f 9 = .slice a ls.length c ∧ h = [.cells g4 4 (List.toArray (Dfa.bv o)), .anchor w3 [g4]]) (fun f h => 2 * Dfa.headCount h + Dfa.slen (f 9)) ?_ ?_
  · exact fun w1 hs => ⟨_, hs.2.2.2.reanchor, w1, o, ls, a, c, hs, hol, hbase, hsound, hclosed, hlo, by omega, hlc, by (first | (simp -implicitDefEqProofs (disch := omega) only [go_sem, e3, e8, e9, e53, e54, e55]; done) | (simp -implicitDefEqProofs (disch := omega) only [go_sem, e3, e8, e9, e53, e54, e55]; rfl)), by (first | (simp -implicitDefEqProofs (disch := omega) only [go_sem, e3, e8, e9, e53, e54, e55]; done) | (simp -implicitDefEqProofs (disch := omega) only [go_sem, e3, e8, e9, e53, e54, e55]; rfl)), by (first | (simp -implicitDefEqProofs (disch := omega) only [go_sem, e3, e8, e9, e53, e54, e55]; done) | (simp -implicitDefEqProofs (disch := omega) only [go_sem, e3, e8, e9, e53, e54, e55]; rfl)), rfl⟩
  clear hbase hsound hclosed hol ho hls hlo hcnt hlc e3 e8 e9 e53 e54 e55 hQ' g1 hil hi
  rintro f h ⟨w3, o, ls, a, c, hs3, hol, hbase, hsound, hclosed, hlo, hcnt, hlc, e3, e8, e9, rfl⟩ Q' hQ'
  have hx3 : Ext [g4] w2 w3 := hs3.mem (.anchor w2 [g4]) (by simp)
  have hfi3 := hfi.keep hx3 (by omega)
  have hg2lt3 := hfi3.lt
  by_cases hnil : ls.length = 0
  · have hlsn : ls = [] := List.eq_nil_of_length_eq_zero hnil
    have hlive := Dfa.live_of hR hol hsound hbase (fun i hi j hj h => (hclosed i hi j hj h).resolve_left (by rw [hlsn]; simp))
    have hz : ¬ (0 : Int) < (ls.length : Int) := by omega
    simp -implicitDefEqProofs (disch := omega) only [go_sem, e3, e8, e9, hz, decide_false]
    exact hQ _ _ fun w' hs => ⟨[_], hs.anchor_back hfi3.ext (by omega), o, hlive, .inr ⟨g4, by rw [hol], rfl⟩⟩
  obtain ⟨m, hmm⟩ : ∃ m, ls.length = m + 1 := ⟨ls.length - 1, by omega⟩
  have hpos : (0 : Int) < (ls.length : Int) := by omega
  have hsub : (ls.length : Int) - 1 = (m : Int) := by omega
  have hown3 : w3.ownsRow 0 3 1 (.slice a ls.length c) ls.length (iv ls) := hs3.1
  obtain ⟨ga, c', hac⟩ := own_some hown3 (by omega)
  injection hac with hac1 _ hac2
  subst hac1 hac2
  have hgalt : ga < w3.heap.size := hs3.2.1 ga rfl
  have hgane : ga ≠ g4 := fun e => hs3.2.2.1 (.cells g4 4 (List.toArray (Dfa.bv o))) (by simp) ga rfl e
  have hcell3 : w3.cell? ⟨ga, m, none⟩ = some (.int .i64 (ls.getD m 0)) := by
    have := hown3.cells (g := ga) rfl m _ (iv_get ls m (by omega))
    rwa [add_at, Nat.zero_add] at this
  have hy := hlo (ls.getD m 0) (by rw [List.getD_eq_getElem?_getD, List.getElem?_eq_getElem (show m < ls.length by omega)]; exact List.getElem_mem _)
  have hlsplit : ls = ls.take m ++ [ls.getD m 0] := by
    have := Dfa.take_succ ls 0 m (by omega)
    rwa [show m + 1 = ls.length by omega, List.take_length] at this
  generalize hyv : ls.getD m 0 = y at *
  obtain ⟨t, rfl⟩ := Int.eq_ofNat_of_zero_le hy.1
  rw [Int.toNat_natCast] at hy
  have htl : t < d.next.length := by omega
  have hfewt := hF.few t
  obtain ⟨at_, ct, hvt, hrt, hnt⟩ := hfi.rows t htl
  have hvc := hfi3.cell t htl
  rw [hvt] at hvc
  simp -implicitDefEqProofs (disch := omega) only [go_sem, e3, e8, e9, hpos, hsub, hcell3, hvc, decide_true]
  refine RLoop_from (fun f h => ∃ (k : Nat) (p : List Bool) (ls' : List Int) (a : Option Addr) (c : Nat), k ≤ (zs t).length ∧ p.length = d.next.length ∧ (∀ k, k < d.next.length → 0 ≤ d.rules.getD k 0 → p.getD k false = true) ∧ (∀ k, k < d.next.length → p.getD k false = true → Dfa.Reach d k) ∧
    (∀ i, i < d.next.length → ∀ j, j < (Dfa.row d i).length → p.getD ((Dfa.row d i).getD j 0).toNat false = true → (Dfa.row d i).getD j 0 ∈ ls' ∨ p.getD i false = true ∨ (Dfa.row d i).getD j 0 = (t : Int)) ∧ (∀ y ∈ ls', 0 ≤ y ∧ y < d.next.length ∧ p.getD y.toNat false = true) ∧ p.getD t false = true ∧ (∀ q, q < k → p.getD ((zs t).getD q 0).toNat false = true) ∧
    ls'.length + Dfa.open_ p ≤ d.next.length ∧ 2 * Dfa.open_ p + ls'.length ≤ 2 * Dfa.open_ o + m ∧ ls'.length ≤ c ∧
    f 3 = .slice (some ⟨g2, 0, none⟩) d.next.length d.next.length ∧ f 8 = .slice (some ⟨g4, 0, none⟩) d.next.length d.next.length ∧ f 9 = .slice a ls'.length c ∧ f 87 = .slice at_ (zs t).length ct ∧ f 88 = .int .i64 ((zs t).length : Int) ∧ f 89 = .int .i64 (k : Int) ∧
    h = [Own 3 1 (.slice a ls'.length c) ls'.length (iv ls'), .cells g4 4 (List.toArray (Dfa.bv p)), .anchor w2 [g4]]) (fun f _ => ((zs t).length - ival (f 89)).toNat) ?_ ?_
  · intro w4 hs
    have hs4 := (hs3.merge hs).own_shrink m (by omega) (by simp)
    rw [iv_take] at hs4
    have htk : (ls.take m).length = m := by rw [List.length_take]; omega
    refine ⟨_, hs4, 0, o, ls.take m, some ⟨ga, 0, none⟩, c, by omega, hol, hbase, hsound, fun i hi j hj h => ?_, fun y hy => hlo y (List.mem_of_mem_take hy), hy.2.2, by omega, by omega, by omega, by omega, by (first | (simp -implicitDefEqProofs (disch := omega) only [go_sem, e3, e8, e9]; done) | (simp -implicitDefEqProofs (disch := omega) only [go_sem, e3, e8, e9]; rfl)), by (first | (simp -implicitDefEqProofs (disch := omega) only [go_sem, e3, e8, e9]; done) | (simp -implicitDefEqProofs (disch := omega) only [go_sem, e3, e8, e9]; rfl)), by (first | (simp -implicitDefEqProofs (disch := omega) only [go_sem, htk]; done) | (simp -implicitDefEqProofs (disch := omega) only [go_sem, htk]; rfl)), by (first | (simp -implicitDefEqProofs (disch := omega) only [go_sem]; done) | (simp -implicitDefEqProofs (disch := omega) only [go_sem]; rfl)), by (first | (simp -implicitDefEqProofs (disch := omega) only [go_sem]; done) | (simp -implicitDefEqProofs (disch := omega) only [go_sem]; rfl)), by (first | (simp -implicitDefEqProofs (disch := omega) only [go_sem]; done) | (simp -implicitDefEqProofs (disch := omega) only [go_sem]; rfl)), by rw [htk]⟩
    rcases hclosed i hi j hj h with h1 | h1
    · rw [hlsplit] at h1
      rcases List.mem_append.1 h1 with h2 | h2
      · exact .inl h2
      · exact .inr (.inr (by simpa using h2))
    · exact .inr (.inl h1)
  rintro f h ⟨k, p, ls', a', c', hk, hpl, hpb, hps, hpc, hpo, hpt, hpz, hpn, hpm, hlc', q3, q8, q9, q87, q88, q89, rfl⟩ Q2 hQ2
  by_cases hkl : k < (zs t).length
  rotate_left
  · have g1 : ¬ (k : Int) < ((zs t).length : Int) := by omega
    simp -implicitDefEqProofs (disch := omega) only [go_sem, q3, q8, q9, q87, q88, q89, g1, decide_false]
    refine hQ' _ _ fun w5 hs => ⟨_, hs.2.2.2.reanchor, ⟨w5, p, ls', a', c', hs, hpl, hpb, hps, fun i hi j hj h => ?_, hpo, hpn, hlc', ?_, ?_, ?_, rfl⟩, ?_⟩
    · rcases hpc i hi j hj h with h1 | h1 | h1
      · exact .inl h1
      · exact .inr h1
      · right
        have hmem := hF.old i hi j hj
        rw [h1, Int.toNat_natCast] at hmem
        obtain ⟨q, hq⟩ := List.mem_iff_getElem?.1 hmem
        have hql := (List.getElem?_eq_some_iff.1 hq).1
        have hzq : (zs t).getD q 0 = (i : Int) := by rw [List.getD_eq_getElem?_getD, hq]; rfl
        have := hpz q (by omega)
        rw [hzq] at this
        exact this
    · (first | (simp -implicitDefEqProofs (disch := omega) only [go_sem, q3, q8, q9, q87, q88, q89]; done) | (simp -implicitDefEqProofs (disch := omega) only [go_sem, q3, q8, q9, q87, q88, q89]; rfl))
    · (first | (simp -implicitDefEqProofs (disch := omega) only [go_sem, q3, q8, q9, q87, q88, q89]; done) | (simp -implicitDefEqProofs (disch := omega) only [go_sem, q3, q8, q9, q87, q88, q89]; rfl))
    · (first | (simp -implicitDefEqProofs (disch := omega) only [go_sem, q3, q8, q9, q87, q88, q89]; done) | (simp -implicitDefEqProofs (disch := omega) only [go_sem, q3, q8, q9, q87, q88, q89]; rfl))
    · rw [Dfa.headCount_bv, Dfa.headCount_bv]
      simp -implicitDefEqProofs (disch := omega) only [go_sem, q3, q8, q9, q87, q88, q89, e9, Dfa.slen_slice]
      omega
  have g1 : (k : Int) < ((zs t).length : Int) := by omega
  obtain ⟨bt, ot, ht_, hbt, hct⟩ := Dfa.ints_at hrt k hkl
  have hbne := hnt bt (by rw [ht_]; rfl)
  have hxs := hF.sound t htl ((zs t).getD k 0) (by rw [List.getD_eq_getElem?_getD, List.getElem?_eq_getElem hkl]; exact List.getElem_mem _)
  generalize hxv : (zs t).getD k 0 = x at *
  obtain ⟨u, rfl⟩ := Int.eq_ofNat_of_zero_le hxs.1
  have hul' : u < p.length := by omega
  rw [ht_] at q87
  cases hpu : p.getD u false with
  | true =>
    simp -implicitDefEqProofs (disch := omega) only [go_sem, q3, q8, q9, q87, q88, q89, g1, hct, hpu, decide_true]
    refine hQ2 _ _ fun w5 hs => ⟨_, hs, ⟨k + 1, p, ls', a', c', by omega, hpl, hpb, hps, hpc, hpo, hpt, fun q hq => ?_, hpn, hpm, hlc', ?_, ?_, ?_, ?_, ?_, ?_, rfl⟩, ?_⟩
    · by_cases hqk : q = k
      · subst hqk; rw [hxv, Int.toNat_natCast]; exact hpu
      · exact hpz q (by omega)
    · (first | (simp -implicitDefEqProofs (disch := omega) only [go_sem, q3, q8, q9, q87, q88, q89]; done) | (simp -implicitDefEqProofs (disch := omega) only [go_sem, q3, q8, q9, q87, q88, q89]; rfl))
    · (first | (simp -implicitDefEqProofs (disch := omega) only [go_sem, q3, q8, q9, q87, q88, q89]; done) | (simp -implicitDefEqProofs (disch := omega) only [go_sem, q3, q8, q9, q87, q88, q89]; rfl))
    · (first | (simp -implicitDefEqProofs (disch := omega) only [go_sem, q3, q8, q9, q87, q88, q89]; done) | (simp -implicitDefEqProofs (disch := omega) only [go_sem, q3, q8, q9, q87, q88, q89]; rfl))
    · (first | (simp -implicitDefEqProofs (disch := omega) only [go_sem, q3, q8, q9, q87, q88, q89, ht_]; done) | (simp -implicitDefEqProofs (disch := omega) only [go_sem, q3, q8, q9, q87, q88, q89, ht_]; rfl))
    · (first | (simp -implicitDefEqProofs (disch := omega) only [go_sem, q3, q8, q9, q87, q88, q89]; done) | (simp -implicitDefEqProofs (disch := omega) only [go_sem, q3, q8, q9, q87, q88, q89]; rfl))
    · (first | (simp -implicitDefEqProofs (disch := omega) only [go_sem, q3, q8, q9, q87, q88, q89]; done) | (simp -implicitDefEqProofs (disch := omega) only [go_sem, q3, q8, q9, q87, q88, q89]; rfl))
    · simp -implicitDefEqProofs (disch := omega) only [go_sem, q3, q8, q9, q87, q88, q89]; omega
  | false =>
    have hopen := Dfa.open_set hul' hpu
    simp -implicitDefEqProofs (disch := omega) only [go_sem, q3, q8, q9, q87, q88, q89, g1, hct, hpu, decide_true]
    refine RRun_build1 ints_sl rfl fun g5 hg5 => ?_
    simp -implicitDefEqProofs (disch := omega) only [go_sem]
    refine RRun_append_cells (n := ls'.length) (xs := iv ls') (cs := [.int .i64 (u : Int)]) ints_sl (fun w1 hs => hs.2.2.2) rfl (fun u hu => by simp at hu; subst hu; rfl) (by omega) (by simp only [maxLen]; omega) fun a'' c'' hc'' => ?_
    simp -implicitDefEqProofs (disch := omega) only [go_sem, q3, q8, q9, q87, q88, q89]
    refine hQ2 _ _ fun w5 hs => ⟨_, hs, ⟨k + 1, p.set u true, ls' ++ [(u : Int)], a'', c'', by omega, by rw [List.length_set]; exact hpl, fun k hk hr => ?_, fun k hk hr => ?_, fun i hi j hj h => ?_, fun y hy => ?_, ?_, fun q hq => ?_, ?_, ?_, by rw [List.length_append]; exact hc'', ?_, ?_, ?_, ?_, ?_, ?_, ?_⟩, ?_⟩
    · rw [Dfa.set_getD hul']; split
      · rfl
      · exact hpb k hk hr
    · rw [Dfa.set_getD hul'] at hr
      split at hr
      · rename_i hku; subst hku
        obtain ⟨_, _, j, hj, hjt⟩ := hxs
        rw [Int.toNat_natCast] at hj hjt
        exact .step k j hk hj (by rw [hjt]; exact hps t htl hpt)
      · exact hps k hk hr
    · rw [Dfa.set_getD hul'] at h ⊢
      have hx := (hR.2.2.2.2 i hi).2.2.2 j hj
      split at h
      · rename_i hru
        left
        refine List.mem_append.2 (.inr ?_)
        simp only [List.mem_singleton]
        omega
      · rcases hpc i hi j hj h with h1 | h1 | h1
        · exact .inl (List.mem_append.2 (.inl h1))
        · right; left; split
          · rfl
          · exact h1
        · exact .inr (.inr h1)
    · rw [Dfa.set_getD hul']
      rcases List.mem_append.1 hy with h1 | h1
      · obtain ⟨k1, k2, k3⟩ := hpo y h1
        refine ⟨k1, k2, ?_⟩
        split
        · rfl
        · exact k3
      · obtain rfl : y = (u : Int) := by simpa using h1
        refine ⟨by omega, by omega, ?_⟩
        rw [Int.toNat_natCast, if_pos rfl]
    · rw [Dfa.set_getD hul']; split
      · rfl
      · exact hpt
    · rw [Dfa.set_getD hul']
      by_cases hqk : q = k
      · subst hqk; rw [hxv, Int.toNat_natCast, if_pos rfl]
      · split
        · rfl
        · exact hpz q (by omega)
    · rw [List.length_append]; simp only [List.length_cons, List.length_nil]; omega
    · rw [List.length_append]; simp only [List.length_cons, List.length_nil]; omega
    · (first | (simp -implicitDefEqProofs (disch := omega) only [go_sem, q3, q8, q9, q87, q88, q89]; done) | (simp -implicitDefEqProofs (disch := omega) only [go_sem, q3, q8, q9, q87, q88, q89]; rfl))
    · (first | (simp -implicitDefEqProofs (disch := omega) only [go_sem, q3, q8, q9, q87, q88, q89]; done) | (simp -implicitDefEqProofs (disch := omega) only [go_sem, q3, q8, q9, q87, q88, q89]; rfl))
    · simp -implicitDefEqProofs (disch := omega) only [go_sem, q3, q8, q9, q87, q88, q89]; rw [List.length_append]; rfl
    · (first | (simp -implicitDefEqProofs (disch := omega) only [go_sem, q3, q8, q9, q87, q88, q89, ht_]; done) | (simp -implicitDefEqProofs (disch := omega) only [go_sem, q3, q8, q9, q87, q88, q89, ht_]; rfl))
    · (first | (simp -implicitDefEqProofs (disch := omega) only [go_sem, q3, q8, q9, q87, q88, q89]; done) | (simp -implicitDefEqProofs (disch := omega) only [go_sem, q3, q8, q9, q87, q88, q89]; rfl))
    · (first | (simp -implicitDefEqProofs (disch := omega) only [go_sem, q3, q8, q9, q87, q88, q89]; done) | (simp -implicitDefEqProofs (disch := omega) only [go_sem, q3, q8, q9, q87, q88, q89]; rfl))
    · rw [iv_snoc, List.length_append]; rfl
    · simp -implicitDefEqProofs (disch := omega) only [go_sem, q3, q8, q9, q87, q88, q89]; omega
end Go.Proofs.Ytpdckakccegofaa
