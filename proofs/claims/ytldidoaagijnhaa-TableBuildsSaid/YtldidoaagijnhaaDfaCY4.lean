/- dfa and its reference: the walks: where bytes lead. -/
import Derived.Test.YtldidoaagijnhaaDfaBY4
import Derived.Test.YtldidoaagijnhaaCount
namespace Go.Proofs.Ytldidoaagijnhaa
set_option linter.unusedSimpArgs false
set_option linter.unusedVariables false
open H

theorem dfa_cell {w : World} {d : Dfa.D} (hm : Dfa.Mem w d) {s : Int} {k : Nat} (h0 : 0 ≤ s) (h1 : s < d.next.length) (hk : k < (Dfa.row d s.toNat).length) : ∃ b o b2 o2, d.a = some ⟨b, o, none⟩ ∧ b < w.heap.size ∧ w.cell? ⟨b, o + s.toNat, none⟩ = some (.slice (some ⟨b2, o2, none⟩) (Dfa.row d s.toNat).length (d.rc s.toNat)) ∧ b2 < w.heap.size ∧ w.cell? ⟨b2, o2 + k, none⟩ = some (.int .i64 ((Dfa.row d s.toNat).getD k 0)) := by
  obtain ⟨b, o, e, hb, hc⟩ := Dfa.next_at hm s.toNat (by omega)
  obtain ⟨b2, o2, e2, hb2, hc2⟩ := Dfa.ints_at (hm.rows s.toNat (by omega)) k hk
  rw [e2] at hc
  exact ⟨b, o, b2, o2, e, hb, hc, hb2, hc2⟩

set_option maxRecDepth 20000 in
set_option maxHeartbeats 2000000 in
theorem dfa_light (d : Dfa.D) (w : World) (hm : Dfa.Mem w d) : Does Try.prog 23 #[d.val] w fun v w' => (∃ b, v = .bool b) ∧ Ext [] w w' := by
  unfold Dfa.D.val
  refine does (args := [.agg (List.toArray (Dfa.dC (Dfa.clsV d) (.slice d.a d.next.length d.c) (.slice d.ar d.rules.length d.cr)))]) Try.func23 rfl (by kernel_rfl) (by kernel_rfl) rfl ent_23 (Sat.start w []) ?_; intro QV hQ
  have hnl := hm.nlen
  simp only [maxLen] at hnl
  simp -implicitDefEqProofs (disch := omega) only [go_sem]
  refine RNew_intro fun g hg => ?_
  simp only [below_cons, below_nil, under_anchor, and_true] at hg
  by_cases h1 : (1100 : Int) < (d.next.length : Int)
  · simp -implicitDefEqProofs (disch := omega) only [go_sem, h1, decide_true]
    exact hQ _ _ fun w' hs => ⟨⟨_, rfl⟩, hs.anchor (by simp)⟩
  by_cases h2 : (1100 : Int) < (d.rules.length : Int)
  · simp -implicitDefEqProofs (disch := omega) only [go_sem, h1, h2, decide_true, decide_false]
    exact hQ _ _ fun w' hs => ⟨⟨_, rfl⟩, hs.anchor (by simp)⟩
  simp -implicitDefEqProofs (disch := omega) only [go_sem, h1, h2, decide_false]
  generalize hH : [Res.cells g 48 (List.toArray (Dfa.dC (Dfa.clsV d) (.slice d.a d.next.length d.c) (.slice d.ar d.rules.length d.cr))), .anchor w []] = H at *
  refine RLoop_intro (fun f h => ∃ (i : Nat) (n : Int), i ≤ d.next.length ∧ f 1 = .pointer (some ⟨g, 0, none⟩) ∧ f 3 = .int .i64 n ∧ f 4 = .int .i64 (i : Int) ∧ h = H) (fun f _ => (d.next.length - ival (f 4)).toNat) ?_ ?_
  · exact ⟨0, 0, by omega, by (first | (simp -implicitDefEqProofs (disch := omega) only [go_sem]; done) | (simp -implicitDefEqProofs (disch := omega) only [go_sem]; rfl)), by (first | (simp -implicitDefEqProofs (disch := omega) only [go_sem]; done) | (simp -implicitDefEqProofs (disch := omega) only [go_sem]; rfl)), by (first | (simp -implicitDefEqProofs (disch := omega) only [go_sem]; done) | (simp -implicitDefEqProofs (disch := omega) only [go_sem]; rfl)), rfl⟩
  rintro f h ⟨i, n, hi, e1, e3, e4, rfl⟩ Q' hQ'
  subst hH
  by_cases hil : i < d.next.length
  · have g1 : (i : Int) < (d.next.length : Int) := by omega
    obtain ⟨b, o, e, hb, hc⟩ := Dfa.next_at hm i hil
    rw [e]
    simp -implicitDefEqProofs (disch := omega) only [go_sem, e1, e3, e4, g1, hc, decide_true]
    refine RC_intro (fun h3 => ?_) (fun h3 => ?_)
    · simp -implicitDefEqProofs (disch := omega) only [go_sem]
      exact hQ _ _ fun w' hs => ⟨⟨_, rfl⟩, hs.anchor (by simp)⟩
    · simp -implicitDefEqProofs (disch := omega) only [go_sem, e1, e3, e4]
      refine hQ' _ _ _ (fun _ hs => hs) ⟨i + 1, IntKind.i64.wrap (n + ((Dfa.row d i).length : Int)), by omega, ?_, ?_, ?_, by rw [e]⟩ ?_
      · (first | (simp -implicitDefEqProofs (disch := omega) only [go_sem, e1, e3, e4]; done) | (simp -implicitDefEqProofs (disch := omega) only [go_sem, e1, e3, e4]; rfl))
      · (first | (simp -implicitDefEqProofs (disch := omega) only [go_sem, e1, e3, e4]; done) | (simp -implicitDefEqProofs (disch := omega) only [go_sem, e1, e3, e4]; rfl))
      · (first | (simp -implicitDefEqProofs (disch := omega) only [go_sem, e1, e3, e4]; done) | (simp -implicitDefEqProofs (disch := omega) only [go_sem, e1, e3, e4]; rfl))
      · simp -implicitDefEqProofs (disch := omega) only [go_sem, e1, e3, e4]; omega
  · have g1 : ¬ (i : Int) < (d.next.length : Int) := by omega
    simp -implicitDefEqProofs (disch := omega) only [go_sem, e1, e3, e4, g1, decide_false]
    exact hQ _ _ fun w' hs => ⟨⟨_, rfl⟩, hs.anchor (by simp)⟩
end Go.Proofs.Ytldidoaagijnhaa
