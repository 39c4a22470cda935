/- node's reference: the walks: whether a node is right. -/
import Derived.Test.YtlmbebnpnnkhmaaNodeB
namespace Go.Proofs.Ytlmbebnpnnkhmaa
set_option linter.unusedSimpArgs false
set_option linter.unusedVariables false
open H
namespace Nd
def lastT (l : List Tk) (i : Nat) : Int := if i = 0 then -1 else (l.getD (i - 1) Tok.tk0).1
def lastK (l : List Tk) (i : Nat) : Int := if i = 0 then -1 else (l.getD (i - 1) Tok.tk0).2.2
theorem lastT_succ (l : List Tk) (i : Nat) : lastT l (i + 1) = (l.getD i Tok.tk0).1 := by unfold lastT; rw [if_neg (by omega)]; rfl
theorem lastK_succ (l : List Tk) (i : Nat) : lastK l (i + 1) = (l.getD i Tok.tk0).2.2 := by unfold lastK; rw [if_neg (by omega)]; rfl
end Nd
theorem right_big {n : Nd.N} (h : Nd.sizes n = false) : Nd.right n = false := by unfold Nd.right; rw [h]; simp
set_option maxRecDepth 20000 in
set_option maxHeartbeats 4000000 in
theorem rnode_right (n : Nd.N) (a1 a2 : Option Addr) (c1 c2 : Nat) (hl1 : n.toks.length ≤ 2147483648) (hl2 : n.kids.length ≤ 2147483648) (w : World) (hm : Nd.Mem w n a1 a2) : Does Try.prog 17 #[Nd.nV n a1 c1 a2 c2] w fun v w' => v = .bool (Nd.right n) ∧ Ext [] w w' := by
  unfold Nd.nV
  refine does (args := [.agg #[.bool n.leaf, .slice a1 n.toks.length c1, .slice a2 n.kids.length c2]]) Try.func17 rfl (by kernel_rfl) (by kernel_rfl) rfl ent_17 (Sat.start w []) ?_; intro QV hQ
  simp -implicitDefEqProofs (disch := omega) only [go_sem]
  refine RNew_intro fun g hg => ?_
  simp only [below_cons, below_nil, under_anchor, and_true] at hg
  cases hlf : n.leaf with
  | true =>
    by_cases h1 : (0 : Int) < (n.kids.length : Int)
    · simp -implicitDefEqProofs (disch := omega) only [go_sem, h1, decide_true]
      exact hQ _ _ fun w' hs => ⟨by rw [right_big]; unfold Nd.sizes; rw [hlf, if_pos rfl, decide_eq_false (by omega)]; rfl, hs.anchor (by simp)⟩
    by_cases h2 : (35 : Int) < (n.toks.length : Int)
    · simp -implicitDefEqProofs (disch := omega) only [go_sem, h1, h2, decide_true, decide_false]
      exact hQ _ _ fun w' hs => ⟨by rw [right_big]; unfold Nd.sizes; rw [hlf, if_pos rfl, decide_eq_false (show ¬ n.toks.length ≤ 35 by omega)]; simp, hs.anchor (by simp)⟩
    have hsz : Nd.sizes n = true := by unfold Nd.sizes; rw [hlf, if_pos rfl, decide_eq_true (by omega), decide_eq_true (by omega)]; rfl
    have hK : Nd.upK n.kids = true := by rw [List.eq_nil_of_length_eq_zero (show n.kids.length = 0 by omega)]; rfl
    simp -implicitDefEqProofs (disch := omega) only [go_sem, h1, h2, decide_false]
    generalize hH : [Res.cells g 25 #[.bool true, .slice a1 n.toks.length c1, .slice a2 n.kids.length c2], .anchor w []] = H at *
    refine RLoop_intro (fun f h => ∃ (i : Nat), i ≤ n.toks.length ∧ Nd.up Nd.okT (fun t => t.1) (Nd.lastT n.toks i) (n.toks.drop i) = Nd.upT n.toks ∧ f 1 = .pointer (some ⟨g, 0, none⟩) ∧ f 3 = .int .i64 (i : Int) ∧ h = H) (fun f _ => (n.toks.length - ival (f 3)).toNat) ?_ ?_
    · exact ⟨0, by omega, rfl, by (first | (simp -implicitDefEqProofs (disch := omega) only [go_sem]; done) | (simp -implicitDefEqProofs (disch := omega) only [go_sem]; rfl)), by (first | (simp -implicitDefEqProofs (disch := omega) only [go_sem]; done) | (simp -implicitDefEqProofs (disch := omega) only [go_sem]; rfl)), rfl⟩
    rintro f h ⟨i, hi, hup, e1, e3, rfl⟩ Q' hQ'
    subst hH
    by_cases hil : i < n.toks.length
    · have g1 : (i : Int) < (n.toks.length : Int) := by omega
      obtain ⟨b, o, rfl, hbb, hc, hc0, _⟩ := three_at hm.toks i hil
      rw [Nd.up_step hil] at hup
      have hnx := Nd.lastT_succ n.toks i
      simp -implicitDefEqProofs (disch := omega) only [go_sem, e1, e3, g1, decide_true]
      refine RDraw_seg (by kernel_rfl) (by kernel_rfl) 27 rfl ?_
      refine RS_det (by kernel_rfl) ?_
      generalize hx : n.toks.getD i Tok.tk0 = x at hc hup hc0 hnx
      cases hok : Nd.okT x with
      | false =>
        rw [hok] at hup
        have cok : ∀ w, Does Try.prog 19 #[.agg (List.toArray (Tok.tkC x))] w fun v w' => v = .bool false ∧ Ext [] w w' := hok ▸ rnode_token x
        repeat (first | refine ToO_step (fun Q hq => by (simp -implicitDefEqProofs (disch := omega) only [go_sem, e1, e3, hc]; exact hq)) ?_ | refine ToO_guard (by (simp -implicitDefEqProofs only [go_sem, e1, e3, hc]; first | done | fail)) (fun Q hq => by (simp -implicitDefEqProofs (disch := omega) only [go_sem, e1, e3, hc]; exact hq)) ?_ | refine ToO_skip (.inl (by (simp -implicitDefEqProofs only [go_sem, e1, e3, hc]; first | done | fail))) ?_ | refine ToO_skip (.inr (by (simp -implicitDefEqProofs only [go_sem, e1, e3, hc]; first | done | fail))) ?_)
        first | refine ToO_step (fun Q hq => by (simp -implicitDefEqProofs (disch := omega) only [go_sem, e1, e3]; refine RCall_eq (cok) ?_; simp -implicitDefEqProofs (disch := omega) only [go_sem, e1, e3]; exact hq)) ?_ | refine ToO_guard (by (simp -implicitDefEqProofs only [go_sem, e1, e3]; first | done | fail)) (fun Q hq => by (simp -implicitDefEqProofs (disch := omega) only [go_sem, e1, e3]; refine RCall_eq (cok) ?_; simp -implicitDefEqProofs (disch := omega) only [go_sem, e1, e3]; exact hq)) ?_
        repeat (first | refine ToO_step (fun Q hq => by (simp -implicitDefEqProofs (disch := omega) only [go_sem, e1, e3]; exact hq)) ?_ | refine ToO_guard (by (simp -implicitDefEqProofs only [go_sem, e1, e3]; first | done | fail)) (fun Q hq => by (simp -implicitDefEqProofs (disch := omega) only [go_sem, e1, e3]; exact hq)) ?_ | refine ToO_skip (.inl (by (simp -implicitDefEqProofs only [go_sem, e1, e3]; first | done | fail))) ?_ | refine ToO_skip (.inr (by (simp -implicitDefEqProofs only [go_sem, e1, e3]; first | done | fail))) ?_)
        refine ToO_nil ?_
        simp -implicitDefEqProofs (disch := omega) only [go_sem, e1, e3]
        exact hQ _ _ fun w' hs => ⟨by rw [right_t hup.symm], hs.anchor (by simp)⟩
      | true =>
        have cok : ∀ w, Does Try.prog 19 #[.agg (List.toArray (Tok.tkC x))] w fun v w' => v = .bool true ∧ Ext [] w w' := hok ▸ rnode_token x
        have hgo : ∀ Q' : Prop, (Nd.up Nd.okT (fun t => t.1) x.1 (n.toks.drop (i + 1)) = Nd.upT n.toks → Q') → Nd.lastT n.toks i < x.1 → Q' := fun Q' hk hlt => by
          rw [hok, decide_eq_true hlt] at hup; exact hk hup
        rcases Nat.eq_zero_or_pos i with hi0 | hi0
        · have g2 : ¬ (0 : Int) < (i : Int) := by omega
          have hl0 : Nd.lastT n.toks i = -1 := by unfold Nd.lastT; rw [if_pos hi0]
          have hpos := (Nd.okT_iff.1 hok).1
          repeat (first | refine ToO_step (fun Q hq => by (simp -implicitDefEqProofs (disch := omega) only [go_sem, e1, e3, hc]; exact hq)) ?_ | refine ToO_guard (by (simp -implicitDefEqProofs only [go_sem, e1, e3, hc]; first | done | fail)) (fun Q hq => by (simp -implicitDefEqProofs (disch := omega) only [go_sem, e1, e3, hc]; exact hq)) ?_ | refine ToO_skip (.inl (by (simp -implicitDefEqProofs only [go_sem, e1, e3, hc]; first | done | fail))) ?_ | refine ToO_skip (.inr (by (simp -implicitDefEqProofs only [go_sem, e1, e3, hc]; first | done | fail))) ?_)
          first | refine ToO_step (fun Q hq => by (simp -implicitDefEqProofs (disch := omega) only [go_sem, e1, e3]; refine RCall_eq (cok) ?_; simp -implicitDefEqProofs (disch := omega) only [go_sem, e1, e3]; exact hq)) ?_ | refine ToO_guard (by (simp -implicitDefEqProofs only [go_sem, e1, e3]; first | done | fail)) (fun Q hq => by (simp -implicitDefEqProofs (disch := omega) only [go_sem, e1, e3]; refine RCall_eq (cok) ?_; simp -implicitDefEqProofs (disch := omega) only [go_sem, e1, e3]; exact hq)) ?_
          repeat (first | refine ToO_step (fun Q hq => by (simp -implicitDefEqProofs (disch := omega) only [go_sem, e1, e3, g2, decide_false]; exact hq)) ?_ | refine ToO_guard (by (simp -implicitDefEqProofs only [go_sem, e1, e3, g2, decide_false]; first | done | fail)) (fun Q hq => by (simp -implicitDefEqProofs (disch := omega) only [go_sem, e1, e3, g2, decide_false]; exact hq)) ?_ | refine ToO_skip (.inl (by (simp -implicitDefEqProofs only [go_sem, e1, e3, g2, decide_false]; first | done | fail))) ?_ | refine ToO_skip (.inr (by (simp -implicitDefEqProofs only [go_sem, e1, e3, g2, decide_false]; first | done | fail))) ?_)
          refine ToO_nil ?_
          simp -implicitDefEqProofs (disch := omega) only [go_sem, e1, e3]
          refine hgo _ (fun hup => ?_) (by omega)
          rw [← hnx] at hup
          refine hQ' _ _ _ (fun _ hs => hs) ⟨i + 1, by omega, hup, ?_, ?_, rfl⟩ ?_
          · (first | (simp -implicitDefEqProofs (disch := omega) only [go_sem, e1, e3]; done) | (simp -implicitDefEqProofs (disch := omega) only [go_sem, e1, e3]; rfl))
          · (first | (simp -implicitDefEqProofs (disch := omega) only [go_sem, e1, e3]; done) | (simp -implicitDefEqProofs (disch := omega) only [go_sem, e1, e3]; rfl))
          · simp -implicitDefEqProofs (disch := omega) only [go_sem, e1, e3]; omega
        · have g2 : (0 : Int) < (i : Int) := by omega
          have hl0 : Nd.lastT n.toks i = (n.toks.getD (i - 1) Tok.tk0).1 := by unfold Nd.lastT; rw [if_neg (by omega)]
          obtain ⟨b', o', e', _, _, hp0, _⟩ := three_at hm.toks (i - 1) (by omega)
          cases e'
          rw [← hl0] at hp0
          have ei : ((i : Int) - 1) = ((i - 1 : Nat) : Int) := by omega
          generalize Nd.lastT n.toks i = last at *
          by_cases hlt : last < x.1
          · have hlt' : ¬ x.1 ≤ last := by omega
            repeat (first | refine ToO_step (fun Q hq => by (simp -implicitDefEqProofs (disch := omega) only [go_sem, e1, e3, hc]; exact hq)) ?_ | refine ToO_guard (by (simp -implicitDefEqProofs only [go_sem, e1, e3, hc]; first | done | fail)) (fun Q hq => by (simp -implicitDefEqProofs (disch := omega) only [go_sem, e1, e3, hc]; exact hq)) ?_ | refine ToO_skip (.inl (by (simp -implicitDefEqProofs only [go_sem, e1, e3, hc]; first | done | fail))) ?_ | refine ToO_skip (.inr (by (simp -implicitDefEqProofs only [go_sem, e1, e3, hc]; first | done | fail))) ?_)
            first | refine ToO_step (fun Q hq => by (simp -implicitDefEqProofs (disch := omega) only [go_sem, e1, e3]; refine RCall_eq (cok) ?_; simp -implicitDefEqProofs (disch := omega) only [go_sem, e1, e3]; exact hq)) ?_ | refine ToO_guard (by (simp -implicitDefEqProofs only [go_sem, e1, e3]; first | done | fail)) (fun Q hq => by (simp -implicitDefEqProofs (disch := omega) only [go_sem, e1, e3]; refine RCall_eq (cok) ?_; simp -implicitDefEqProofs (disch := omega) only [go_sem, e1, e3]; exact hq)) ?_
            repeat (first | refine ToO_step (fun Q hq => by (simp -implicitDefEqProofs (disch := omega) only [go_sem, e1, e3, g2, ei, hc0, hp0, hlt', decide_true, decide_false]; exact hq)) ?_ | refine ToO_guard (by (simp -implicitDefEqProofs only [go_sem, e1, e3, g2, ei, hc0, hp0, hlt', decide_true, decide_false]; first | done | fail)) (fun Q hq => by (simp -implicitDefEqProofs (disch := omega) only [go_sem, e1, e3, g2, ei, hc0, hp0, hlt', decide_true, decide_false]; exact hq)) ?_ | refine ToO_skip (.inl (by (simp -implicitDefEqProofs only [go_sem, e1, e3, g2, ei, hc0, hp0, hlt', decide_true, decide_false]; first | done | fail))) ?_ | refine ToO_skip (.inr (by (simp -implicitDefEqProofs only [go_sem, e1, e3, g2, ei, hc0, hp0, hlt', decide_true, decide_false]; first | done | fail))) ?_)
            refine ToO_nil ?_
            simp -implicitDefEqProofs (disch := omega) only [go_sem, e1, e3]
            refine hgo _ (fun hup => ?_) hlt
            rw [← hnx] at hup
            refine hQ' _ _ _ (fun _ hs => hs) ⟨i + 1, by omega, hup, ?_, ?_, rfl⟩ ?_
            · (first | (simp -implicitDefEqProofs (disch := omega) only [go_sem, e1, e3]; done) | (simp -implicitDefEqProofs (disch := omega) only [go_sem, e1, e3]; rfl))
            · (first | (simp -implicitDefEqProofs (disch := omega) only [go_sem, e1, e3]; done) | (simp -implicitDefEqProofs (disch := omega) only [go_sem, e1, e3]; rfl))
            · simp -implicitDefEqProofs (disch := omega) only [go_sem, e1, e3]; omega
          · have hlt' : x.1 ≤ last := by omega
            rw [hok, decide_eq_false hlt] at hup
            repeat (first | refine ToO_step (fun Q hq => by (simp -implicitDefEqProofs (disch := omega) only [go_sem, e1, e3, hc]; exact hq)) ?_ | refine ToO_guard (by (simp -implicitDefEqProofs only [go_sem, e1, e3, hc]; first | done | fail)) (fun Q hq => by (simp -implicitDefEqProofs (disch := omega) only [go_sem, e1, e3, hc]; exact hq)) ?_ | refine ToO_skip (.inl (by (simp -implicitDefEqProofs only [go_sem, e1, e3, hc]; first | done | fail))) ?_ | refine ToO_skip (.inr (by (simp -implicitDefEqProofs only [go_sem, e1, e3, hc]; first | done | fail))) ?_)
            first | refine ToO_step (fun Q hq => by (simp -implicitDefEqProofs (disch := omega) only [go_sem, e1, e3]; refine RCall_eq (cok) ?_; simp -implicitDefEqProofs (disch := omega) only [go_sem, e1, e3]; exact hq)) ?_ | refine ToO_guard (by (simp -implicitDefEqProofs only [go_sem, e1, e3]; first | done | fail)) (fun Q hq => by (simp -implicitDefEqProofs (disch := omega) only [go_sem, e1, e3]; refine RCall_eq (cok) ?_; simp -implicitDefEqProofs (disch := omega) only [go_sem, e1, e3]; exact hq)) ?_
            repeat (first | refine ToO_step (fun Q hq => by (simp -implicitDefEqProofs (disch := omega) only [go_sem, e1, e3, g2, ei, hc0, hp0, hlt', decide_true, decide_false]; exact hq)) ?_ | refine ToO_guard (by (simp -implicitDefEqProofs only [go_sem, e1, e3, g2, ei, hc0, hp0, hlt', decide_true, decide_false]; first | done | fail)) (fun Q hq => by (simp -implicitDefEqProofs (disch := omega) only [go_sem, e1, e3, g2, ei, hc0, hp0, hlt', decide_true, decide_false]; exact hq)) ?_ | refine ToO_skip (.inl (by (simp -implicitDefEqProofs only [go_sem, e1, e3, g2, ei, hc0, hp0, hlt', decide_true, decide_false]; first | done | fail))) ?_ | refine ToO_skip (.inr (by (simp -implicitDefEqProofs only [go_sem, e1, e3, g2, ei, hc0, hp0, hlt', decide_true, decide_false]; first | done | fail))) ?_)
            refine ToO_nil ?_
            simp -implicitDefEqProofs (disch := omega) only [go_sem, e1, e3]
            exact hQ _ _ fun w' hs => ⟨by rw [right_t hup.symm], hs.anchor (by simp)⟩
    · have g1 : ¬ (i : Int) < (n.toks.length : Int) := by omega
      rw [List.drop_eq_nil_of_le (by omega)] at hup
      rw [right_s hup.symm hK, hsz] at hQ
      simp -implicitDefEqProofs (disch := omega) only [go_sem, e1, e3, g1, decide_false]
      exact hQ _ _ fun w' hs => ⟨rfl, hs.anchor (by simp)⟩
  | false =>
    by_cases h1 : (0 : Int) < (n.toks.length : Int)
    · simp -implicitDefEqProofs (disch := omega) only [go_sem, h1, decide_true]
      exact hQ _ _ fun w' hs => ⟨by rw [right_big]; unfold Nd.sizes; rw [hlf, if_neg (by simp), decide_eq_false (by omega)]; rfl, hs.anchor (by simp)⟩
    have hT : Nd.upT n.toks = true := by rw [List.eq_nil_of_length_eq_zero (show n.toks.length = 0 by omega)]; rfl
    have hsz : Nd.sizes n = Nd.btw n.kids.length 1 20 := by unfold Nd.sizes; rw [hlf, if_neg (by simp), decide_eq_true (by omega)]; rfl
    simp -implicitDefEqProofs (disch := omega) only [go_sem, h1, decide_false]
    refine RCall_eq (rnode_in (n.kids.length : Int) 1 20) ?_
    cases h2 : Nd.btw n.kids.length 1 20 with
    | false =>
      rw [h2] at hsz
      simp -implicitDefEqProofs (disch := omega) only [go_sem]
      exact hQ _ _ fun w' hs => ⟨by rw [right_big hsz], hs.anchor (by simp)⟩
    | true =>
    rw [h2] at hsz
    simp -implicitDefEqProofs (disch := omega) only [go_sem]
    generalize hH : [Res.cells g 25 #[.bool false, .slice a1 n.toks.length c1, .slice a2 n.kids.length c2], .anchor w []] = H at *
    refine RLoop_intro (fun f h => ∃ (i : Nat), i ≤ n.kids.length ∧ Nd.up Nd.okK (fun t => t.2.2) (Nd.lastK n.kids i) (n.kids.drop i) = Nd.upK n.kids ∧ f 1 = .pointer (some ⟨g, 0, none⟩) ∧ f 4 = .int .i64 (i : Int) ∧ h = H) (fun f _ => (n.kids.length - ival (f 4)).toNat) ?_ ?_
    · exact ⟨0, by omega, rfl, by (first | (simp -implicitDefEqProofs (disch := omega) only [go_sem]; done) | (simp -implicitDefEqProofs (disch := omega) only [go_sem]; rfl)), by (first | (simp -implicitDefEqProofs (disch := omega) only [go_sem]; done) | (simp -implicitDefEqProofs (disch := omega) only [go_sem]; rfl)), rfl⟩
    rintro f h ⟨i, hi, hup, e1, e4, rfl⟩ Q' hQ'
    subst hH
    by_cases hil : i < n.kids.length
    · have g1 : (i : Int) < (n.kids.length : Int) := by omega
      obtain ⟨b, o, rfl, hbb, hc, _, _, hc0⟩ := three_at hm.kids i hil
      rw [Nd.up_step hil] at hup
      have hnx := Nd.lastK_succ n.kids i
      generalize hx : n.kids.getD i Tok.tk0 = x at hc hup hc0 hnx
      simp -implicitDefEqProofs (disch := omega) only [go_sem, e1, e4, g1, hc, decide_true]
      refine RNew_intro fun g2 hg2 => ?_
      simp only [below_cons, below_nil, under_anchor, under_cells, and_true] at hg2
      simp -implicitDefEqProofs (disch := omega) only [go_sem, e1, e4]
      refine RDraw_seg (by kernel_rfl) (by kernel_rfl) 32 rfl ?_
      refine RS_det (by kernel_rfl) ?_
      have hok : Nd.okK x = (Nd.btw x.1 1 65535 && (Nd.btw x.2.1 1 4294967295 && Nd.btw x.2.2 0 4294967295)) := rfl
      cases k1 : Nd.btw x.1 1 65535 with
      | false =>
        rw [hok, k1] at hup
        have cok : ∀ w, Does Try.prog 37 #[.int .i64 x.1, .int .i64 1, .int .i64 65535] w fun v w' => v = .bool false ∧ Ext [] w w' := k1 ▸ rnode_in x.1 1 65535
        repeat (first | refine ToO_step (fun Q hq => by (simp -implicitDefEqProofs (disch := omega) only [go_sem, e1, e4]; exact hq)) ?_ | refine ToO_guard (by (simp -implicitDefEqProofs only [go_sem, e1, e4]; first | done | fail)) (fun Q hq => by (simp -implicitDefEqProofs (disch := omega) only [go_sem, e1, e4]; exact hq)) ?_ | refine ToO_skip (.inl (by (simp -implicitDefEqProofs only [go_sem, e1, e4]; first | done | fail))) ?_ | refine ToO_skip (.inr (by (simp -implicitDefEqProofs only [go_sem, e1, e4]; first | done | fail))) ?_)
        first | refine ToO_step (fun Q hq => by (simp -implicitDefEqProofs (disch := omega) only [go_sem, e1, e4]; refine RCall_eq (cok) ?_; simp -implicitDefEqProofs (disch := omega) only [go_sem, e1, e4]; exact hq)) ?_ | refine ToO_guard (by (simp -implicitDefEqProofs only [go_sem, e1, e4]; first | done | fail)) (fun Q hq => by (simp -implicitDefEqProofs (disch := omega) only [go_sem, e1, e4]; refine RCall_eq (cok) ?_; simp -implicitDefEqProofs (disch := omega) only [go_sem, e1, e4]; exact hq)) ?_
        repeat (first | refine ToO_step (fun Q hq => by (simp -implicitDefEqProofs (disch := omega) only [go_sem, e1, e4]; exact hq)) ?_ | refine ToO_guard (by (simp -implicitDefEqProofs only [go_sem, e1, e4]; first | done | fail)) (fun Q hq => by (simp -implicitDefEqProofs (disch := omega) only [go_sem, e1, e4]; exact hq)) ?_ | refine ToO_skip (.inl (by (simp -implicitDefEqProofs only [go_sem, e1, e4]; first | done | fail))) ?_ | refine ToO_skip (.inr (by (simp -implicitDefEqProofs only [go_sem, e1, e4]; first | done | fail))) ?_)
        refine ToO_nil ?_
        simp -implicitDefEqProofs (disch := omega) only [go_sem, e1, e4]
        exact hQ _ _ fun w' hs => ⟨by rw [right_k hup.symm], hs.anchor (by simp)⟩
      | true =>
      have cok : ∀ w, Does Try.prog 37 #[.int .i64 x.1, .int .i64 1, .int .i64 65535] w fun v w' => v = .bool true ∧ Ext [] w w' := k1 ▸ rnode_in x.1 1 65535
      repeat (first | refine ToO_step (fun Q hq => by (simp -implicitDefEqProofs (disch := omega) only [go_sem, e1, e4]; exact hq)) ?_ | refine ToO_guard (by (simp -implicitDefEqProofs only [go_sem, e1, e4]; first | done | fail)) (fun Q hq => by (simp -implicitDefEqProofs (disch := omega) only [go_sem, e1, e4]; exact hq)) ?_ | refine ToO_skip (.inl (by (simp -implicitDefEqProofs only [go_sem, e1, e4]; first | done | fail))) ?_ | refine ToO_skip (.inr (by (simp -implicitDefEqProofs only [go_sem, e1, e4]; first | done | fail))) ?_)
      first | refine ToO_step (fun Q hq => by (simp -implicitDefEqProofs (disch := omega) only [go_sem, e1, e4]; refine RCall_eq (cok) ?_; simp -implicitDefEqProofs (disch := omega) only [go_sem, e1, e4]; exact hq)) ?_ | refine ToO_guard (by (simp -implicitDefEqProofs only [go_sem, e1, e4]; first | done | fail)) (fun Q hq => by (simp -implicitDefEqProofs (disch := omega) only [go_sem, e1, e4]; refine RCall_eq (cok) ?_; simp -implicitDefEqProofs (disch := omega) only [go_sem, e1, e4]; exact hq)) ?_
      repeat (first | refine ToO_step (fun Q hq => by (simp -implicitDefEqProofs (disch := omega) only [go_sem, e1, e4]; exact hq)) ?_ | refine ToO_guard (by (simp -implicitDefEqProofs only [go_sem, e1, e4]; first | done | fail)) (fun Q hq => by (simp -implicitDefEqProofs (disch := omega) only [go_sem, e1, e4]; exact hq)) ?_ | refine ToO_skip (.inl (by (simp -implicitDefEqProofs only [go_sem, e1, e4]; first | done | fail))) ?_ | refine ToO_skip (.inr (by (simp -implicitDefEqProofs only [go_sem, e1, e4]; first | done | fail))) ?_)
      cases k2 : Nd.btw x.2.1 1 4294967295 with
      | false =>
        rw [hok, k1, k2] at hup
        have cok : ∀ w, Does Try.prog 37 #[.int .i64 x.2.1, .int .i64 1, .int .i64 4294967295] w fun v w' => v = .bool false ∧ Ext [] w w' := k2 ▸ rnode_in x.2.1 1 4294967295
        first | refine ToO_step (fun Q hq => by (simp -implicitDefEqProofs (disch := omega) only [go_sem, e1, e4]; refine RCall_eq (cok) ?_; simp -implicitDefEqProofs (disch := omega) only [go_sem, e1, e4]; exact hq)) ?_ | refine ToO_guard (by (simp -implicitDefEqProofs only [go_sem, e1, e4]; first | done | fail)) (fun Q hq => by (simp -implicitDefEqProofs (disch := omega) only [go_sem, e1, e4]; refine RCall_eq (cok) ?_; simp -implicitDefEqProofs (disch := omega) only [go_sem, e1, e4]; exact hq)) ?_
        repeat (first | refine ToO_step (fun Q hq => by (simp -implicitDefEqProofs (disch := omega) only [go_sem, e1, e4]; exact hq)) ?_ | refine ToO_guard (by (simp -implicitDefEqProofs only [go_sem, e1, e4]; first | done | fail)) (fun Q hq => by (simp -implicitDefEqProofs (disch := omega) only [go_sem, e1, e4]; exact hq)) ?_ | refine ToO_skip (.inl (by (simp -implicitDefEqProofs only [go_sem, e1, e4]; first | done | fail))) ?_ | refine ToO_skip (.inr (by (simp -implicitDefEqProofs only [go_sem, e1, e4]; first | done | fail))) ?_)
        refine ToO_nil ?_
        simp -implicitDefEqProofs (disch := omega) only [go_sem, e1, e4]
        exact hQ _ _ fun w' hs => ⟨by rw [right_k hup.symm], hs.anchor (by simp)⟩
      | true =>
      have cok2 : ∀ w, Does Try.prog 37 #[.int .i64 x.2.1, .int .i64 1, .int .i64 4294967295] w fun v w' => v = .bool true ∧ Ext [] w w' := k2 ▸ rnode_in x.2.1 1 4294967295
      first | refine ToO_step (fun Q hq => by (simp -implicitDefEqProofs (disch := omega) only [go_sem, e1, e4]; refine RCall_eq (cok2) ?_; simp -implicitDefEqProofs (disch := omega) only [go_sem, e1, e4]; exact hq)) ?_ | refine ToO_guard (by (simp -implicitDefEqProofs only [go_sem, e1, e4]; first | done | fail)) (fun Q hq => by (simp -implicitDefEqProofs (disch := omega) only [go_sem, e1, e4]; refine RCall_eq (cok2) ?_; simp -implicitDefEqProofs (disch := omega) only [go_sem, e1, e4]; exact hq)) ?_
      repeat (first | refine ToO_step (fun Q hq => by (simp -implicitDefEqProofs (disch := omega) only [go_sem, e1, e4]; exact hq)) ?_ | refine ToO_guard (by (simp -implicitDefEqProofs only [go_sem, e1, e4]; first | done | fail)) (fun Q hq => by (simp -implicitDefEqProofs (disch := omega) only [go_sem, e1, e4]; exact hq)) ?_ | refine ToO_skip (.inl (by (simp -implicitDefEqProofs only [go_sem, e1, e4]; first | done | fail))) ?_ | refine ToO_skip (.inr (by (simp -implicitDefEqProofs only [go_sem, e1, e4]; first | done | fail))) ?_)
      cases k3 : Nd.btw x.2.2 0 4294967295 with
      | false =>
        rw [hok, k1, k2, k3] at hup
        have cok : ∀ w, Does Try.prog 37 #[.int .i64 x.2.2, .int .i64 0, .int .i64 4294967295] w fun v w' => v = .bool false ∧ Ext [] w w' := k3 ▸ rnode_in x.2.2 0 4294967295
        first | refine ToO_step (fun Q hq => by (simp -implicitDefEqProofs (disch := omega) only [go_sem, e1, e4]; refine RCall_eq (cok) ?_; simp -implicitDefEqProofs (disch := omega) only [go_sem, e1, e4]; exact hq)) ?_ | refine ToO_guard (by (simp -implicitDefEqProofs only [go_sem, e1, e4]; first | done | fail)) (fun Q hq => by (simp -implicitDefEqProofs (disch := omega) only [go_sem, e1, e4]; refine RCall_eq (cok) ?_; simp -implicitDefEqProofs (disch := omega) only [go_sem, e1, e4]; exact hq)) ?_
        repeat (first | refine ToO_step (fun Q hq => by (simp -implicitDefEqProofs (disch := omega) only [go_sem, e1, e4]; exact hq)) ?_ | refine ToO_guard (by (simp -implicitDefEqProofs only [go_sem, e1, e4]; first | done | fail)) (fun Q hq => by (simp -implicitDefEqProofs (disch := omega) only [go_sem, e1, e4]; exact hq)) ?_ | refine ToO_skip (.inl (by (simp -implicitDefEqProofs only [go_sem, e1, e4]; first | done | fail))) ?_ | refine ToO_skip (.inr (by (simp -implicitDefEqProofs only [go_sem, e1, e4]; first | done | fail))) ?_)
        refine ToO_nil ?_
        simp -implicitDefEqProofs (disch := omega) only [go_sem, e1, e4]
        exact hQ _ _ fun w' hs => ⟨by rw [right_k hup.symm], hs.anchor (by simp)⟩
      | true =>
      have cok3 : ∀ w, Does Try.prog 37 #[.int .i64 x.2.2, .int .i64 0, .int .i64 4294967295] w fun v w' => v = .bool true ∧ Ext [] w w' := k3 ▸ rnode_in x.2.2 0 4294967295
      first | refine ToO_step (fun Q hq => by (simp -implicitDefEqProofs (disch := omega) only [go_sem, e1, e4]; refine RCall_eq (cok3) ?_; simp -implicitDefEqProofs (disch := omega) only [go_sem, e1, e4]; exact hq)) ?_ | refine ToO_guard (by (simp -implicitDefEqProofs only [go_sem, e1, e4]; first | done | fail)) (fun Q hq => by (simp -implicitDefEqProofs (disch := omega) only [go_sem, e1, e4]; refine RCall_eq (cok3) ?_; simp -implicitDefEqProofs (disch := omega) only [go_sem, e1, e4]; exact hq)) ?_
      have hokt : Nd.okK x = true := by rw [hok, k1, k2, k3]; rfl
      have hgo : ∀ Q' : Prop, (Nd.up Nd.okK (fun t => t.2.2) x.2.2 (n.kids.drop (i + 1)) = Nd.upK n.kids → Q') → Nd.lastK n.kids i < x.2.2 → Q' := fun Q' hk hlt => by
        rw [hokt, decide_eq_true hlt] at hup; exact hk hup
      rcases Nat.eq_zero_or_pos i with hi0 | hi0
      · have g2 : ¬ (0 : Int) < (i : Int) := by omega
        have hl0 : Nd.lastK n.kids i = -1 := by unfold Nd.lastK; rw [if_pos hi0]
        have hpos := (Nd.okK_iff.1 hokt).2.2
        repeat (first | refine ToO_step (fun Q hq => by (simp -implicitDefEqProofs (disch := omega) only [go_sem, e1, e4, g2, decide_false]; exact hq)) ?_ | refine ToO_guard (by (simp -implicitDefEqProofs only [go_sem, e1, e4, g2, decide_false]; first | done | fail)) (fun Q hq => by (simp -implicitDefEqProofs (disch := omega) only [go_sem, e1, e4, g2, decide_false]; exact hq)) ?_ | refine ToO_skip (.inl (by (simp -implicitDefEqProofs only [go_sem, e1, e4, g2, decide_false]; first | done | fail))) ?_ | refine ToO_skip (.inr (by (simp -implicitDefEqProofs only [go_sem, e1, e4, g2, decide_false]; first | done | fail))) ?_)
        refine ToO_nil ?_
        simp -implicitDefEqProofs (disch := omega) only [go_sem, e1, e4]
        refine hgo _ (fun hup => ?_) (by omega)
        rw [← hnx] at hup
        refine hQ' _ _ _ (fun _ hs => hs.2.2.2) ⟨i + 1, by omega, hup, ?_, ?_, rfl⟩ ?_
        · (first | (simp -implicitDefEqProofs (disch := omega) only [go_sem, e1, e4]; done) | (simp -implicitDefEqProofs (disch := omega) only [go_sem, e1, e4]; rfl))
        · (first | (simp -implicitDefEqProofs (disch := omega) only [go_sem, e1, e4]; done) | (simp -implicitDefEqProofs (disch := omega) only [go_sem, e1, e4]; rfl))
        · simp -implicitDefEqProofs (disch := omega) only [go_sem, e1, e4]; omega
      · have g2 : (0 : Int) < (i : Int) := by omega
        have hl0 : Nd.lastK n.kids i = (n.kids.getD (i - 1) Tok.tk0).2.2 := by unfold Nd.lastK; rw [if_neg (by omega)]
        obtain ⟨b', o', e', _, _, _, _, hp0⟩ := three_at hm.kids (i - 1) (by omega)
        cases e'
        rw [← hl0] at hp0
        have ei : ((i : Int) - 1) = ((i - 1 : Nat) : Int) := by omega
        generalize Nd.lastK n.kids i = last at *
        by_cases hlt : last < x.2.2
        · have hlt' : ¬ x.2.2 ≤ last := by omega
          repeat (first | refine ToO_step (fun Q hq => by (simp -implicitDefEqProofs (disch := omega) only [go_sem, e1, e4, g2, ei, hc0, hp0, hlt', decide_true, decide_false]; exact hq)) ?_ | refine ToO_guard (by (simp -implicitDefEqProofs only [go_sem, e1, e4, g2, ei, hc0, hp0, hlt', decide_true, decide_false]; first | done | fail)) (fun Q hq => by (simp -implicitDefEqProofs (disch := omega) only [go_sem, e1, e4, g2, ei, hc0, hp0, hlt', decide_true, decide_false]; exact hq)) ?_ | refine ToO_skip (.inl (by (simp -implicitDefEqProofs only [go_sem, e1, e4, g2, ei, hc0, hp0, hlt', decide_true, decide_false]; first | done | fail))) ?_ | refine ToO_skip (.inr (by (simp -implicitDefEqProofs only [go_sem, e1, e4, g2, ei, hc0, hp0, hlt', decide_true, decide_false]; first | done | fail))) ?_)
          refine ToO_nil ?_
          simp -implicitDefEqProofs (disch := omega) only [go_sem, e1, e4]
          refine hgo _ (fun hup => ?_) hlt
          rw [← hnx] at hup
          refine hQ' _ _ _ (fun _ hs => hs.2.2.2) ⟨i + 1, by omega, hup, ?_, ?_, rfl⟩ ?_
          · (first | (simp -implicitDefEqProofs (disch := omega) only [go_sem, e1, e4]; done) | (simp -implicitDefEqProofs (disch := omega) only [go_sem, e1, e4]; rfl))
          · (first | (simp -implicitDefEqProofs (disch := omega) only [go_sem, e1, e4]; done) | (simp -implicitDefEqProofs (disch := omega) only [go_sem, e1, e4]; rfl))
          · simp -implicitDefEqProofs (disch := omega) only [go_sem, e1, e4]; omega
        · have hlt' : x.2.2 ≤ last := by omega
          rw [hokt, decide_eq_false hlt] at hup
          repeat (first | refine ToO_step (fun Q hq => by (simp -implicitDefEqProofs (disch := omega) only [go_sem, e1, e4, g2, ei, hc0, hp0, hlt', decide_true, decide_false]; exact hq)) ?_ | refine ToO_guard (by (simp -implicitDefEqProofs only [go_sem, e1, e4, g2, ei, hc0, hp0, hlt', decide_true, decide_false]; first | done | fail)) (fun Q hq => by (simp -implicitDefEqProofs (disch := omega) only [go_sem, e1, e4, g2, ei, hc0, hp0, hlt', decide_true, decide_false]; exact hq)) ?_ | refine ToO_skip (.inl (by (simp -implicitDefEqProofs only [go_sem, e1, e4, g2, ei, hc0, hp0, hlt', decide_true, decide_false]; first | done | fail))) ?_ | refine ToO_skip (.inr (by (simp -implicitDefEqProofs only [go_sem, e1, e4, g2, ei, hc0, hp0, hlt', decide_true, decide_false]; first | done | fail))) ?_)
          refine ToO_nil ?_
          simp -implicitDefEqProofs (disch := omega) only [go_sem, e1, e4]
          exact hQ _ _ fun w' hs => ⟨by rw [right_k hup.symm], hs.anchor (by simp)⟩
    · have g1 : ¬ (i : Int) < (n.kids.length : Int) := by omega
      rw [List.drop_eq_nil_of_le (by omega)] at hup
      rw [right_s hT hup.symm, hsz] at hQ
      simp -implicitDefEqProofs (disch := omega) only [go_sem, e1, e4, g1, decide_false]
      exact hQ _ _ fun w' hs => ⟨rfl, hs.anchor (by simp)⟩
end Go.Proofs.Ytlmbebnpnnkhmaa
