/- tokens and its reference: the walks, second part: one token, searches. -/
import Derived.Test.YtjcchmlideknpaaTokAY5
namespace Go.Proofs.Ytjcchmlideknpaa
set_option linter.unusedSimpArgs false
set_option linter.unusedVariables false
open H

set_option maxHeartbeats 400000 in
theorem tok_nth (l : List Tok.Tk) (a : Option Addr) (c : Nat) (n : Int) (hl : l.length ≤ 2147483648) (w : World) (hr : Rd w a l.length 3 (ofL Tok.tkC Tok.tk0 l)) :
    Does Try.prog 39 #[.slice a l.length c, .int .i64 n] w fun v w' => v = .tuple #[.agg #[.int .i64 (Tok.nth l n).1.1, .int .i64 (Tok.nth l n).1.2.1, .int .i64 (Tok.nth l n).1.2.2], .int .i64 (Tok.nth l n).2] ∧ Ext [] w w' := by
  refine does (args := [.slice a l.length c, .int .i64 n]) Try.func39 rfl (by kernel_rfl) (by kernel_rfl) rfl ent_39 (Sat.start w []) ?_; intro QV hQ
  simp -implicitDefEqProofs (disch := omega) only [go_sem]
  refine RNew_intro fun g hg => ?_
  simp only [below_cons, below_nil, under_anchor, and_true] at hg
  simp -implicitDefEqProofs (disch := omega) only [go_sem]
  by_cases h1 : n < 0
  · simp -implicitDefEqProofs (disch := omega) only [go_sem, h1, decide_true]
    exact hQ _ _ fun w' hs => ⟨by simp only [Tok.nth, if_pos h1]; rfl, hs.anchor (by simp)⟩
  by_cases h2 : (l.length : Int) ≤ n
  · simp -implicitDefEqProofs (disch := omega) only [go_sem, h1, h2, decide_true, decide_false]
    exact hQ _ _ fun w' hs => ⟨by simp only [Tok.nth, if_neg h1, if_pos h2]; rfl, hs.anchor (by simp)⟩
  obtain ⟨i, rfl⟩ := Int.eq_ofNat_of_zero_le (show 0 ≤ n by omega)
  obtain ⟨b, o, rfl, hb, hc, _⟩ := tk_at hr i (by omega)
  simp -implicitDefEqProofs (disch := omega) only [go_sem, h1, h2, decide_false, hc]
  exact hQ _ _ fun w' hs => ⟨by simp only [Tok.nth, if_neg h1, if_neg h2, Int.toNat_natCast], hs.anchor (by simp)⟩
/-- The search: what is asked of a token is asked by a function with one captured variable. -/
theorem tok_first (l : List Tok.Tk) (a : Option Addr) (c : Nat) (p : Tok.Tk → Bool) (k : FuncId) (cv : Value) (hm : Tok.Mono p l) (hl : l.length ≤ 2147483648) (w : World) (hr : Rd w a l.length 3 (ofL Tok.tkC Tok.tk0 l))
    (hp : ∀ w', Ext [] w w' → ∀ t ∈ l, Does Try.prog k #[.agg #[.int .i64 t.1, .int .i64 t.2.1, .int .i64 t.2.2], cv] w' fun v w'' => v = .bool (p t) ∧ Ext [] w' w'') :
    Does Try.prog 54 #[.slice a l.length c, .func (.func k) #[] #[cv]] w fun v w' => v = .int .i64 ((l.countP fun t => !p t : Nat) : Int) ∧ Ext [] w w' := by
  refine does (args := [.slice a l.length c, .func (.func k) #[] #[cv]]) Try.func54 rfl (by kernel_rfl) (by kernel_rfl) rfl ent_54 (Sat.start w []) ?_; intro QV hQ
  have hsp := Tok.mono_split hm
  have hcl : (l.countP fun t => !p t) ≤ l.length := List.countP_le_length
  generalize (l.countP fun t => !p t) = n at *
  simp -implicitDefEqProofs (disch := omega) only [go_sem]
  refine RLoop_intro (fun f h => ∃ (lo hi : Nat), lo ≤ n ∧ n ≤ hi ∧ hi ≤ l.length ∧ f 0 = .slice a l.length c ∧ f 1 = .func (.func k) #[] #[cv] ∧ f 5 = .int .i64 (lo : Int) ∧ f 6 = .int .i64 (hi : Int) ∧ h = [.anchor w []]) (fun f _ => (ival (f 6) - ival (f 5)).toNat) ?_ ?_
  · exact ⟨0, l.length, by omega, hcl, Nat.le_refl _, by simp -implicitDefEqProofs (disch := omega) only [go_sem], by simp -implicitDefEqProofs (disch := omega) only [go_sem], by simp -implicitDefEqProofs (disch := omega) only [go_sem]; rfl, by simp -implicitDefEqProofs (disch := omega) only [go_sem], rfl⟩
  rintro f h ⟨lo, hi, h1, h2, h3, e0, e1, e5, e6, rfl⟩ Q' hQ'
  by_cases hlt : lo < hi
  · have g1 : (lo : Int) < (hi : Int) := by omega
    obtain ⟨m, hmid⟩ : ∃ m, m = (lo + hi) / 2 := ⟨_, rfl⟩
    have hq : ((lo : Int) + (hi : Int)).tdiv 2 = (m : Int) := by rw [Int.tdiv_eq_ediv_of_nonneg (by omega)]; omega
    obtain ⟨b, o, rfl, hb, hc, _⟩ := tk_at hr m (by omega)
    have hmem : l.getD m Tok.tk0 ∈ l := by
      rw [List.getD_eq_getElem?_getD, List.getElem?_eq_getElem (show m < l.length by omega)]
      exact List.getElem_mem _
    have hspm := hsp m (by omega)
    simp -implicitDefEqProofs (disch := omega) only [go_sem, e0, e1, e5, e6, g1, hq, hc, decide_true]
    refine RCall_of (φ := fun v => v = .bool (p (l.getD m Tok.tk0))) (fun w1 hs => hp w1 (hs.mem (.anchor w []) (by simp)) _ hmem) ?_
    rintro _ rfl
    simp -implicitDefEqProofs (disch := omega) only [go_sem]
    refine RC_intro (fun hpt => ?_) (fun hpt => ?_)
    · rw [hpt] at hspm
      simp -implicitDefEqProofs (disch := omega) only [go_sem]
      refine hQ' _ _ _ (fun _ hs => hs) ⟨lo, m, h1, by simpa using hspm, by omega, ?_, ?_, ?_, ?_, rfl⟩ ?_
      · simp -implicitDefEqProofs (disch := omega) only [go_sem, e0]
      · simp -implicitDefEqProofs (disch := omega) only [go_sem, e1]
      · simp -implicitDefEqProofs (disch := omega) only [go_sem, e5]
      · simp -implicitDefEqProofs (disch := omega) only [go_sem]
      · simp -implicitDefEqProofs (disch := omega) only [go_sem, e5, e6]; omega
    · rw [hpt] at hspm
      have hnm : ¬ n ≤ m := fun h => by simpa using hspm.2 h
      simp -implicitDefEqProofs (disch := omega) only [go_sem]
      refine hQ' _ _ _ (fun _ hs => hs) ⟨m + 1, hi, by omega, h2, h3, ?_, ?_, ?_, ?_, rfl⟩ ?_
      · simp -implicitDefEqProofs (disch := omega) only [go_sem, e0]
      · simp -implicitDefEqProofs (disch := omega) only [go_sem, e1]
      · simp -implicitDefEqProofs (disch := omega) only [go_sem]; rfl
      · simp -implicitDefEqProofs (disch := omega) only [go_sem, e6]
      · simp -implicitDefEqProofs (disch := omega) only [go_sem, e5, e6]; omega
  · have he : lo = n := by omega
    have g1 : ¬ (lo : Int) < (hi : Int) := by omega
    simp -implicitDefEqProofs (disch := omega) only [go_sem, e5, e6, g1, decide_false]
    exact hQ _ _ fun w' hs => ⟨by rw [he], hs.anchor (by simp)⟩

theorem keep_cell {w w' : World} {g : Nat} {v : Value} (hx : Ext [] w w') (h : w.cell? ⟨g, 0, none⟩ = some v) : w'.cell? ⟨g, 0, none⟩ = some v := by
  rw [← h]; exact cell_of_block (hx.block g (cell_lt h) (by simp))

set_option maxHeartbeats 400000 in
theorem tok_endsBehind (a n k at_ : Int) (g : Nat) (w : World) (hg : w.cell? ⟨g, 0, none⟩ = some (.int .i64 at_)) (hs : -1152921504606846976 ≤ a ∧ a ≤ 1152921504606846976 ∧ -1152921504606846976 ≤ n ∧ n ≤ 1152921504606846976) :
    Does Try.prog 55 #[.agg #[.int .i64 a, .int .i64 n, .int .i64 k], .pointer (some ⟨g, 0, none⟩)] w fun v w' => v = .bool (decide (at_ < a + n)) ∧ Ext [] w w' := by
  refine does (args := [.agg #[.int .i64 a, .int .i64 n, .int .i64 k], .pointer (some ⟨g, 0, none⟩)]) Try.func55 rfl (by kernel_rfl) (by kernel_rfl) rfl ent_55 (Sat.start w []) ?_; intro QV hQ
  have hlt := cell_lt hg
  simp -implicitDefEqProofs (disch := omega) only [go_sem]
  refine RNew_intro fun g' hg' => ?_
  simp only [below_cons, below_nil, under_anchor, and_true] at hg'
  have hne : g ≠ g' := by simp only [] at hlt; omega
  simp only [] at hlt
  simp -implicitDefEqProofs (disch := omega) only [go_sem, hg]
  exact hQ _ _ fun w' hs => ⟨rfl, hs.anchor (by simp)⟩
/-- Tokens whose numbers are not huge. -/
def Small (l : List Tok.Tk) : Prop := ∀ t ∈ l, -1152921504606846976 ≤ t.1 ∧ t.1 ≤ 1152921504606846976 ∧ -1152921504606846976 ≤ t.2.1 ∧ t.2.1 ≤ 1152921504606846976

set_option maxHeartbeats 400000 in
theorem tok_ended (l : List Tok.Tk) (a : Option Addr) (c : Nat) (at_ : Int) (hm : Tok.Mono (fun t => decide (at_ < t.1 + t.2.1)) l) (hsm : Small l) (hl : l.length ≤ 2147483648) (w : World) (hr : Rd w a l.length 3 (ofL Tok.tkC Tok.tk0 l)) :
    Does Try.prog 38 #[.slice a l.length c, .int .i64 at_] w fun v w' => v = .int .i64 (Tok.ended l at_ : Int) ∧ Ext [] w w' := by
  refine does (args := [.slice a l.length c, .int .i64 at_]) Try.func38 rfl (by kernel_rfl) (by kernel_rfl) rfl ent_38 (Sat.start w []) ?_; intro QV hQ
  simp -implicitDefEqProofs (disch := omega) only [go_sem]
  refine RNew_intro fun g hg => ?_
  simp only [below_cons, below_nil, under_anchor, and_true] at hg
  simp -implicitDefEqProofs (disch := omega) only [go_sem]
  refine RCall_of (φ := fun v => v = .int .i64 (Tok.ended l at_ : Int)) (fun w1 hs => ?_) ?_
  · have hx : Ext [] w w1 := hs.mem (.anchor w []) (by simp)
    have hcell : w1.cell? ⟨g, 0, none⟩ = some (.int .i64 at_) := look_sound hs (by simp -implicitDefEqProofs (disch := omega) only [go_sem])
    have := tok_first l a c (fun t => decide (at_ < t.1 + t.2.1)) 55 (.pointer (some ⟨g, 0, none⟩)) hm hl w1 (hr.keep hx) (fun w2 hx2 t ht => tok_endsBehind t.1 t.2.1 t.2.2 at_ g w2 (keep_cell hx2 hcell) (hsm t ht))
    rw [Tok.count_not] at this
    exact this
  rintro _ rfl
  simp -implicitDefEqProofs (disch := omega) only [go_sem]
  exact hQ _ _ fun w' hs => ⟨rfl, hs.anchor (by simp)⟩

end Go.Proofs.Ytjcchmlideknpaa
