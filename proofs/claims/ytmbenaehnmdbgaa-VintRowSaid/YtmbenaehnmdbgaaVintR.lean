/- Texts one behind the other: the law's walk. -/
import Derived.Test.YtmbenaehnmdbgaaVintT
import Derived.Test.YtmbenaehnmdbgaaVintK
import Derived.Test.YtmbenaehnmdbgaaRead
namespace Go.Proofs.Ytmbenaehnmdbgaa
set_option linter.unusedSimpArgs false
set_option linter.unusedVariables false
open H
set_option maxRecDepth 20000 in
set_option maxHeartbeats 400000 in
theorem law_row (l : List (List UInt8)) (a : Option Addr) (c : Nat) (w : World) (hn : l.length ≤ 9223372036854775807)
    (hr : Rd w a l.length 1 (ofL (fun x => [str x]) [] l)) :
    Does Try.prog 12 #[.slice a l.length c] w fun v w' => v = .bool true ∧ Ext [] w w' := by
  refine does (args := [.slice a l.length c]) Try.func12 rfl (by kernel_rfl) (by kernel_rfl) rfl ent_12 (Sat.start w []) ?_; intro QV hQ
  simp -implicitDefEqProofs (disch := omega) only [go_sem]
  refine RLoop_intro (fun f h => ∃ (i : Nat), i ≤ l.length ∧ i ≤ 30 ∧ (∀ j, j < i → (l.getD j []).length ≤ 2000) ∧ (Vint.rows (l.take i)).length ≤ 2009 * i ∧ f 0 = .slice a l.length c ∧ f 3 = str (Vint.rows (l.take i)) ∧ f 4 = .int .i64 (i : Int) ∧ h = [.anchor w []]) (fun f _ => (30 - ival (f 4)).toNat) ?_ ?_
  · exact ⟨0, by omega, by omega, by omega, by simp [Vint.rows], by simp -implicitDefEqProofs (disch := omega) only [go_sem], by simp -implicitDefEqProofs (disch := omega) only [go_sem]; rfl, by simp -implicitDefEqProofs (disch := omega) only [go_sem]; rfl, rfl⟩
  rintro f h ⟨i, hi, hi30, hsm, hlen, e0, e3, e4, rfl⟩ Q' hQ'
  by_cases h1 : (i : Int) < (l.length : Int) ∧ (i : Int) < 30
  · simp -implicitDefEqProofs (disch := omega) only [go_sem, e0, e4, h1.1, h1.2]
    obtain ⟨b, o, rfl, hb, _, hci⟩ := hr.at_ i (by omega)
    replace hci : w.cell? ⟨b, o + i, none⟩ = some (str (l.getD i [])) := by have := hci 0 (by omega); rwa [Nat.mul_one, Nat.add_zero] at this
    simp -implicitDefEqProofs (disch := omega) only [go_sem, e0, e4, hci]
    refine RC_intro (fun h2 => ?_) (fun h2 => ?_)
    · simp -implicitDefEqProofs (disch := omega) only [go_sem]
      refine RCall_eq vint_known ?_
      simp -implicitDefEqProofs (disch := omega) only [go_sem]
      exact hQ _ _ fun w' hs => ⟨rfl, hs.anchor (by simp)⟩
    · simp only [decide_eq_false_iff_not] at h2
      have ht := Vint.text_len (l.getD i []) (by omega)
      have hrt := Vint.rows_take l i (by omega)
      simp -implicitDefEqProofs (disch := omega) only [go_sem, e0, e3, e4, hci]
      refine RCall_eq (vint_text (l.getD i []) (by omega)) ?_
      simp -implicitDefEqProofs (disch := omega) only [go_sem, e3, e4]
      refine hQ' _ _ _ (fun _ hs => hs) ⟨i + 1, by omega, by omega, fun j hj => ?_, ?_, ?_, ?_, ?_, rfl⟩ ?_
      · by_cases hj' : j = i
        · subst hj'; omega
        · exact hsm j (by omega)
      · rw [hrt, List.length_append]; omega
      · simp -implicitDefEqProofs (disch := omega) only [go_sem, e0]
      · simp -implicitDefEqProofs (disch := omega) only [go_sem]; rw [hrt]
      · simp -implicitDefEqProofs (disch := omega) only [go_sem]; rfl
      · simp -implicitDefEqProofs (disch := omega) only [go_sem, e4]; omega
  · have hm : i = l.length ∨ i = 30 := by omega
    have htest : (decide ((i : Int) < (l.length : Int)) = true ∧ decide ((i : Int) < 30) = false) ∨ decide ((i : Int) < (l.length : Int)) = false := by
      by_cases h : (i : Int) < (l.length : Int)
      · exact .inl ⟨decide_eq_true h, decide_eq_false (by omega)⟩
      · exact .inr (decide_eq_false h)
    have hrows : (Vint.rows (l.take i)).length ≤ 60270 := by omega
    refine Or.elim htest (fun t => ?_) (fun t1 => ?_)
    · obtain ⟨t1, t2⟩ := t
      simp -implicitDefEqProofs (disch := omega) only [go_sem, e0, e4, t1, t2]
      refine RLoop_intro (fun f h => ∃ (k : Nat), k ≤ i ∧ f 0 = .slice a l.length c ∧ f 3 = str (Vint.rows (l.take i)) ∧ f 5 = .int .i64 ((Vint.rows (l.take k)).length : Int) ∧ f 6 = .int .i64 (k : Int) ∧ h = [.anchor w []]) (fun f _ => (30 - ival (f 6)).toNat) ?_ ?_
      · exact ⟨0, by omega, by simp -implicitDefEqProofs (disch := omega) only [go_sem, e0], by simp -implicitDefEqProofs (disch := omega) only [go_sem, e3], by simp -implicitDefEqProofs (disch := omega) only [go_sem]; rfl, by simp -implicitDefEqProofs (disch := omega) only [go_sem]; rfl, rfl⟩
      rintro f h ⟨k, hk, e0, e3, e5, e6, rfl⟩ Q' hQ'
      by_cases hki : k < i
      · have g1 : (k : Int) < (l.length : Int) := by omega
        have g2 : (k : Int) < 30 := by omega
        obtain ⟨b, o, rfl, hb, _, hck⟩ := hr.at_ k (by omega)
        replace hck : w.cell? ⟨b, o + k, none⟩ = some (str (l.getD k [])) := by have := hck 0 (by omega); rwa [Nat.mul_one, Nat.add_zero] at this
        have hsk := hsm k hki
        have htl := Vint.text_len (l.getD k []) hsk
        have hsp := Vint.rows_split l k i hki hi
        have hbk := Vint.next_back (Vint.rows (l.take k)) (l.getD k []) (Vint.rows ((l.take i).drop (k + 1))) (by omega)
        rw [← hsp] at hbk
        have hlk : (Vint.rows (l.take i)).length = (Vint.rows (l.take k)).length + (Vint.text (l.getD k [])).length + (Vint.rows ((l.take i).drop (k + 1))).length := by
          rw [hsp, List.length_append, List.length_append]
        have hle : ¬ (((Vint.rows (l.take k)).length + (Vint.text (l.getD k [])).length : Nat) : Int) ≤ ((Vint.rows (l.take k)).length : Int) := by omega
        simp -implicitDefEqProofs (disch := omega) only [go_sem, e0, e3, e5, e6, g1, g2]
        refine RCall_eq (vint_next _ (by omega) _ (by omega)) ?_
        rw [hbk]
        simp -implicitDefEqProofs (disch := omega) only [go_sem, e0, e5, e6, hck, hle]
        refine hQ' _ _ _ (fun _ hs => hs) ⟨k + 1, by omega, by simp -implicitDefEqProofs (disch := omega) only [go_sem, e0], by simp -implicitDefEqProofs (disch := omega) only [go_sem, e3], ?_, by simp -implicitDefEqProofs (disch := omega) only [go_sem]; rfl, rfl⟩ ?_
        · simp -implicitDefEqProofs (disch := omega) only [go_sem]; rw [Vint.rows_take l k (by omega), List.length_append]
        · simp -implicitDefEqProofs (disch := omega) only [go_sem, e6]; omega
      · obtain rfl : k = i := by omega
        have hend : (decide ((k : Int) < (l.length : Int)) = true ∧ decide ((k : Int) < 30) = false) ∨ decide ((k : Int) < (l.length : Int)) = false := by
          by_cases h : (k : Int) < (l.length : Int)
          · exact .inl ⟨decide_eq_true h, decide_eq_false (by omega)⟩
          · exact .inr (decide_eq_false h)
        rcases hend with ⟨u1, u2⟩ | u1
        · simp -implicitDefEqProofs (disch := omega) only [go_sem, e0, e3, e5, e6, u1, u2]
          refine RCall_eq vint_known ?_
          simp -implicitDefEqProofs (disch := omega) only [go_sem]
          exact hQ _ _ fun w' hs => ⟨rfl, hs.anchor (by simp)⟩
        · simp -implicitDefEqProofs (disch := omega) only [go_sem, e0, e3, e5, e6, u1]
          refine RCall_eq vint_known ?_
          simp -implicitDefEqProofs (disch := omega) only [go_sem]
          exact hQ _ _ fun w' hs => ⟨rfl, hs.anchor (by simp)⟩
    · simp -implicitDefEqProofs (disch := omega) only [go_sem, e0, e4, t1]
      refine RLoop_intro (fun f h => ∃ (k : Nat), k ≤ i ∧ f 0 = .slice a l.length c ∧ f 3 = str (Vint.rows (l.take i)) ∧ f 5 = .int .i64 ((Vint.rows (l.take k)).length : Int) ∧ f 6 = .int .i64 (k : Int) ∧ h = [.anchor w []]) (fun f _ => (30 - ival (f 6)).toNat) ?_ ?_
      · exact ⟨0, by omega, by simp -implicitDefEqProofs (disch := omega) only [go_sem, e0], by simp -implicitDefEqProofs (disch := omega) only [go_sem, e3], by simp -implicitDefEqProofs (disch := omega) only [go_sem]; rfl, by simp -implicitDefEqProofs (disch := omega) only [go_sem]; rfl, rfl⟩
      rintro f h ⟨k, hk, e0, e3, e5, e6, rfl⟩ Q' hQ'
      by_cases hki : k < i
      · have g1 : (k : Int) < (l.length : Int) := by omega
        have g2 : (k : Int) < 30 := by omega
        obtain ⟨b, o, rfl, hb, _, hck⟩ := hr.at_ k (by omega)
        replace hck : w.cell? ⟨b, o + k, none⟩ = some (str (l.getD k [])) := by have := hck 0 (by omega); rwa [Nat.mul_one, Nat.add_zero] at this
        have hsk := hsm k hki
        have htl := Vint.text_len (l.getD k []) hsk
        have hsp := Vint.rows_split l k i hki hi
        have hbk := Vint.next_back (Vint.rows (l.take k)) (l.getD k []) (Vint.rows ((l.take i).drop (k + 1))) (by omega)
        rw [← hsp] at hbk
        have hlk : (Vint.rows (l.take i)).length = (Vint.rows (l.take k)).length + (Vint.text (l.getD k [])).length + (Vint.rows ((l.take i).drop (k + 1))).length := by
          rw [hsp, List.length_append, List.length_append]
        have hle : ¬ (((Vint.rows (l.take k)).length + (Vint.text (l.getD k [])).length : Nat) : Int) ≤ ((Vint.rows (l.take k)).length : Int) := by omega
        simp -implicitDefEqProofs (disch := omega) only [go_sem, e0, e3, e5, e6, g1, g2]
        refine RCall_eq (vint_next _ (by omega) _ (by omega)) ?_
        rw [hbk]
        simp -implicitDefEqProofs (disch := omega) only [go_sem, e0, e5, e6, hck, hle]
        refine hQ' _ _ _ (fun _ hs => hs) ⟨k + 1, by omega, by simp -implicitDefEqProofs (disch := omega) only [go_sem, e0], by simp -implicitDefEqProofs (disch := omega) only [go_sem, e3], ?_, by simp -implicitDefEqProofs (disch := omega) only [go_sem]; rfl, rfl⟩ ?_
        · simp -implicitDefEqProofs (disch := omega) only [go_sem]; rw [Vint.rows_take l k (by omega), List.length_append]
        · simp -implicitDefEqProofs (disch := omega) only [go_sem, e6]; omega
      · obtain rfl : k = i := by omega
        have hend : (decide ((k : Int) < (l.length : Int)) = true ∧ decide ((k : Int) < 30) = false) ∨ decide ((k : Int) < (l.length : Int)) = false := by
          by_cases h : (k : Int) < (l.length : Int)
          · exact .inl ⟨decide_eq_true h, decide_eq_false (by omega)⟩
          · exact .inr (decide_eq_false h)
        rcases hend with ⟨u1, u2⟩ | u1
        · simp -implicitDefEqProofs (disch := omega) only [go_sem, e0, e3, e5, e6, u1, u2]
          refine RCall_eq vint_known ?_
          simp -implicitDefEqProofs (disch := omega) only [go_sem]
          exact hQ _ _ fun w' hs => ⟨rfl, hs.anchor (by simp)⟩
        · simp -implicitDefEqProofs (disch := omega) only [go_sem, e0, e3, e5, e6, u1]
          refine RCall_eq vint_known ?_
          simp -implicitDefEqProofs (disch := omega) only [go_sem]
          exact hQ _ _ fun w' hs => ⟨rfl, hs.anchor (by simp)⟩
end Go.Proofs.Ytmbenaehnmdbgaa
