/- table's laws: the walks: an automaton of bytes. -/
import Derived.Test.YtldidoaagijnhaaTbW
namespace Go.Proofs.Ytldidoaagijnhaa
set_option linter.unusedSimpArgs false
set_option linter.unusedVariables false
open H
theorem H.Ext.comp {S T : List Nat} {a b c : World} (h : Ext S a b) (k : Ext T b c) (hT : ∀ x ∈ T, x ∈ S ∨ a.heap.size ≤ x) : Ext S a c :=
  ⟨k.os.trans h.os, k.tape.trans h.tape, k.output.trans h.output, Nat.le_trans h.size k.size, fun i hi hS => (k.block i (Nat.lt_of_lt_of_le hi h.size) (fun hm => by
    rcases hT i hm with h1 | h1
    · exact hS h1
    · omega)).trans (h.block i hi hS)⟩
/-- Two parses' automata are alike. -/
theorem same_parse {d e : Dfa.D} {o : Option Tb.Data} (h1 : Tb.datOf d = o.getD (fun _ => 0, [], [])) (h2 : Tb.datOf e = o.getD (fun _ => 0, [], [])) : Dfa.sameB d e = true := by
  have h : Tb.datOf d = Tb.datOf e := h1.trans h2.symm
  have a1 : d.cls = e.cls := congrArg Prod.fst h
  have a2 : d.next = e.next := congrArg (fun x => x.2.1) h
  have a3 : d.rules = e.rules := congrArg (fun x => x.2.2) h
  exact same_yes (alike_iff.2 fun i _ => by rw [a1]) a2 a3
theorem parse_none {s : List UInt8} {e : Int} (h : Tb.parse s = (none, e)) : e ≠ 0 := by
  unfold Tb.parse at h
  split at h
  · injection h with _ h; omega
  split at h
  · injection h with _ h; omega
  split at h
  · injection h with _ h; omega
  split at h
  · injection h with _ h; omega
  · split at h
    · injection h with h; cases h
    · injection h with _ h; omega
theorem val_eq (d : Dfa.D) : d.val = .agg (List.toArray (Dfa.dC (intsV d.cls .i64) (.slice d.a d.next.length d.c) (.slice d.ar d.rules.length d.cr))) := rfl
set_option maxRecDepth 20000 in
set_option maxHeartbeats 2000000 in
theorem law_parses (s : List UInt8) (hz : s.length ≤ 9223372036854775807) (w : World) : Does Try.prog 6 #[str s] w fun v w' => v = .bool true ∧ Ext [] w w' := by
  refine does (args := [str s]) Try.func6 rfl (by kernel_rfl) (by kernel_rfl) rfl ent_6 (Sat.start w []) ?_; intro QV hQ
  by_cases h1 : (3000 : Int) < (s.length : Int)
  · simp -implicitDefEqProofs (disch := omega) only [go_sem, h1, decide_true]
    refine RCall_eq law_known ?_
    simp -implicitDefEqProofs (disch := omega) only [go_sem]
    exact hQ _ _ fun w' hs => ⟨rfl, hs.anchor (by simp)⟩
  have hl : s.length ≤ 3000 := by omega
  have hsum := Tb.sumB_len s
  simp -implicitDefEqProofs (disch := omega) only [go_sem, h1, decide_false]
  refine RCall_eq (law_sound s (by omega)) ?_
  obtain ⟨t, ht⟩ : ∃ t, t = s ++ Tb.sumB s := ⟨_, rfl⟩
  have htl : t.length ≤ 3004 := by rw [ht, List.length_append]; omega
  rw [← ht]
  simp -implicitDefEqProofs (disch := omega) only [go_sem]
  refine RCall_any fun w1 hs1 => (tb_parse s (by omega) w1).mono ?_
  rintro v w2 ⟨hx12, d1, rfl, hm1, hn1, _, _, _, _, hd1⟩
  refine ⟨[.anchor w2 []], Sat.start w2 [], ?_⟩
  have hxw2 : Ext [] w w2 := (hs1.anchor (by simp)).trans hx12
  rw [val_eq d1]
  simp -implicitDefEqProofs (disch := omega) only [go_sem]
  refine RNew_intro fun g4 hg4 => ?_
  have hw4 : w2.heap.size ≤ g4 := hg4.1
  simp -implicitDefEqProofs (disch := omega) only [go_sem]
  refine RCall_any fun w3 hs3 => (rtb_parse s (by omega) w3).mono ?_
  rintro v w4 ⟨hx34, d2, rfl, hm2, hn2, _, _, _, _, hd2⟩
  have hs4 := hs3.ext hx34
  have hg4w : g4 < w3.heap.size := hs3.lt _ List.mem_cons_self g4 rfl
  have hx24 : Ext [] w2 w4 := hs4.anchor (by simp)
  refine ⟨_, Sat.reanchors (rs := [_]) (suf := [_]) (S := [g4]) hs4 (by simp [Res.fp]), ?_⟩
  rw [val_eq d2]
  simp only [List.cons_append, List.nil_append]
  simp -implicitDefEqProofs (disch := omega) only [go_sem]
  refine RNew_intro fun g6 hg6 => ?_
  have n46 : g4 ≠ g6 := Nat.ne_of_lt hg6.1
  have hw6 : w4.heap.size ≤ g6 := hg6.2.1
  simp -implicitDefEqProofs (disch := omega) only [go_sem]
  refine RCall_any fun w5 hs5 => (tb_parse t (by omega) w5).mono ?_
  rintro v w6 ⟨hx56, d3, rfl, hm3, hn3, _, _, _, _, hd3⟩
  have hs6 := hs5.ext hx56
  have hg6w : g6 < w5.heap.size := hs5.lt _ List.mem_cons_self g6 rfl
  have hx46 : Ext [g4] w4 w6 := hs6.anchor (by simp)
  have hg4w5 : g4 < w5.heap.size := by have := (hs5.anchor (w0 := w4) (S := [g4]) (by simp)).size; have := hx34.size; omega
  refine ⟨_, Sat.reanchors (rs := [_, _]) (suf := [_]) (S := [g6, g4]) hs6 (by simp [Res.fp]), ?_⟩
  rw [val_eq d3]
  simp only [List.cons_append, List.nil_append]
  simp -implicitDefEqProofs (disch := omega) only [go_sem]
  refine RNew_intro fun g8 hg8 => ?_
  have n68 : g6 ≠ g8 := Nat.ne_of_lt hg8.1
  have n48 : g4 ≠ g8 := Nat.ne_of_lt hg8.2.1
  have hw8 : w6.heap.size ≤ g8 := hg8.2.2.1
  simp -implicitDefEqProofs (disch := omega) only [go_sem]
  refine RCall_any fun w7 hs7 => (rtb_parse t (by omega) w7).mono ?_
  rintro v w8 ⟨hx78, d4, rfl, hm4, hn4, _, _, _, _, hd4⟩
  have hs8 := hs7.ext hx78
  have hg8w : g8 < w7.heap.size := hs7.lt _ List.mem_cons_self g8 rfl
  have hx68 : Ext [g6, g4] w6 w8 := hs8.anchor (by simp)
  have hsz7 : w6.heap.size ≤ w7.heap.size := (hs7.anchor (w0 := w6) (S := [g6, g4]) (by simp)).size
  have hsz6 := hx56.size
  refine ⟨_, Sat.reanchors (rs := [_, _, _]) (suf := [_]) (S := [g8, g6, g4]) hs8 (by simp [Res.fp]), ?_⟩
  rw [val_eq d4]
  simp only [List.cons_append, List.nil_append]
  simp -implicitDefEqProofs (disch := omega) only [go_sem]
  refine RNew_intro fun g10 hg10 => ?_
  have n8a : g8 ≠ g10 := Nat.ne_of_lt hg10.1
  have n6a : g6 ≠ g10 := Nat.ne_of_lt hg10.2.1
  have n4a : g4 ≠ g10 := Nat.ne_of_lt hg10.2.2.1
  have hsz24 := hx24.size
  have hsz46 := hx46.size
  have hall : ∀ w', Ext [g8, g6, g4] w8 w' → Ext [] w w' ∧ Dfa.Mem w' d1 ∧ Dfa.Mem w' d2 ∧ Dfa.Mem w' d3 ∧ Dfa.Mem w' d4 := fun w' hx => by
    have e6 : Ext [g6, g4] w6 w' := hx68.comp hx (by simp; omega)
    have e4 : Ext [g4] w4 w' := hx46.comp e6 (by simp; omega)
    have e2 : Ext [] w2 w' := hx24.comp e4 (by simp; omega)
    exact ⟨hxw2.trans e2, hm1.keep e2, H.Mem_keepS hm2 e4 hn2 (by simp; omega), H.Mem_keepS hm3 e6 hn3 (by simp; omega), H.Mem_keepS hm4 hx hn4 (by simp; omega)⟩
  simp -implicitDefEqProofs (disch := omega) only [go_sem, hsetN_ne, n46, n68, n48, n8a, n6a, n4a, Ne.symm n46, Ne.symm n68, Ne.symm n48, Ne.symm n8a, Ne.symm n6a, Ne.symm n4a]
  refine RCall_eqS (u := .bool true) (fun w9 hs => ?_) ?_
  · obtain ⟨_, k1, k2, _⟩ := hall w9 (hs.anchor (by simp))
    have := rdfa_same d1 d2 w9 k1 k2
    rw [same_parse hd1 hd2, val_eq, val_eq] at this
    exact this
  simp -implicitDefEqProofs (disch := omega) only [go_sem, hsetN_ne, n46, n68, n48, n8a, n6a, n4a, Ne.symm n46, Ne.symm n68, Ne.symm n48, Ne.symm n8a, Ne.symm n6a, Ne.symm n4a]
  refine RCall_eqS (u := .bool true) (fun w9 hs => ?_) ?_
  · obtain ⟨_, _, _, k1, k2⟩ := hall w9 (hs.anchor (by simp))
    have := rdfa_same d3 d4 w9 k1 k2
    rw [same_parse hd3 hd4, val_eq, val_eq] at this
    exact this
  simp -implicitDefEqProofs (disch := omega) only [go_sem, hsetN_ne, n46, n68, n48, n8a, n6a, n4a, Ne.symm n46, Ne.symm n68, Ne.symm n48, Ne.symm n8a, Ne.symm n6a, Ne.symm n4a, decide_true]
  refine RCall_eq law_known ?_
  simp -implicitDefEqProofs (disch := omega) only [go_sem]
  exact hQ _ _ fun w' hs => ⟨rfl, (hall w' (hs.anchor (by simp))).1⟩
set_option maxRecDepth 20000 in
set_option maxHeartbeats 2000000 in
theorem law_only (s : List UInt8) (hz : s.length ≤ 9223372036854775807) (w : World) : Does Try.prog 8 #[str s] w fun v w' => v = .bool true ∧ Ext [] w w' := by
  refine does (args := [str s]) Try.func8 rfl (by kernel_rfl) (by kernel_rfl) rfl ent_8 (Sat.start w []) ?_; intro QV hQ
  by_cases h1 : (3000 : Int) < (s.length : Int)
  · simp -implicitDefEqProofs (disch := omega) only [go_sem, h1, decide_true]
    refine RCall_eq law_known ?_
    simp -implicitDefEqProofs (disch := omega) only [go_sem]
    exact hQ _ _ fun w' hs => ⟨rfl, hs.anchor (by simp)⟩
  have hl : s.length ≤ 3000 := by omega
  have hsum := Tb.sumB_len s
  simp -implicitDefEqProofs (disch := omega) only [go_sem, h1, decide_false]
  refine RCall_eq (law_sound s (by omega)) ?_
  obtain ⟨t, ht⟩ : ∃ t, t = s ++ Tb.sumB s := ⟨_, rfl⟩
  have htl : t.length ≤ 3004 := by rw [ht, List.length_append]; omega
  rw [← ht]
  simp -implicitDefEqProofs (disch := omega) only [go_sem]
  refine RCall_any fun w1 hs1 => (tb_parse t (by omega) w1).mono ?_
  have hpr := fun x e => @Tb.parse_right t x e
  have hpn := fun e => @parse_none t e
  generalize Tb.parse t = p at *
  obtain ⟨o, e⟩ := p
  rintro v w2 ⟨hx12, d, rfl, hm, hn, hc1, hc2, hc3, hc4, hd⟩
  refine ⟨[.anchor w2 []], Sat.start w2 [], ?_⟩
  have hxw2 : Ext [] w w2 := (hs1.anchor (by simp)).trans hx12
  simp only [] at hd
  rw [val_eq d]
  simp -implicitDefEqProofs (disch := omega) only [go_sem]
  refine RNew_intro fun g4 hg4 => ?_
  have hw4 : w2.heap.size ≤ g4 := hg4.1
  simp -implicitDefEqProofs (disch := omega) only [go_sem]
  cases o with
  | none =>
    have he : ¬ e = 0 := hpn e rfl
    have hnx : d.next.length = 0 := by
      have : d.next = [] := congrArg (fun x => x.2.1) hd
      rw [this]; rfl
    have h00 : decide (((0 : Nat) : Int) = 0) = true := rfl
    rw [hnx]
    simp -implicitDefEqProofs (disch := omega) only [go_sem, he, decide_false, Bool.not_false, h00]
    refine RCall_eq law_known ?_
    simp -implicitDefEqProofs (disch := omega) only [go_sem]
    exact hQ _ _ fun w' hs => ⟨rfl, hxw2.trans (hs.anchor (by simp))⟩
  | some x =>
    obtain ⟨rfl, hR, hb⟩ := hpr x e rfl
    have hx : Tb.datOf d = x := hd
    have hR' : Dfa.Right d := by rw [← hx] at hR; exact hR
    have hb' : Tb.build d = (t, 0) := by rw [← hx] at hb; exact hb
    simp -implicitDefEqProofs (disch := omega) only [go_sem, decide_true, Bool.not_true]
    refine RCall_eqS (fun w3 hs => by have := tb_build d (cls_in hc1) (rules_in hc2) w3 (hm.keep (hs.anchor (by simp))); rw [hb', val_eq] at this; exact this) ?_
    simp -implicitDefEqProofs (disch := omega) only [go_sem]
    refine RCall_eqS (fun w3 hs => by have := rdfa_right d w3 (hm.keep (hs.anchor (by simp))); rw [val_eq] at this; exact this) ?_
    simp -implicitDefEqProofs (disch := omega) only [go_sem, hR', decide_true]
    refine RCall_eq law_known ?_
    simp -implicitDefEqProofs (disch := omega) only [go_sem]
    exact hQ _ _ fun w' hs => ⟨rfl, hxw2.trans (hs.anchor (by simp))⟩
end Go.Proofs.Ytldidoaagijnhaa
