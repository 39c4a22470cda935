/- crc's linear law: the walk. -/
import Derived.Test.YtmbenaehnmdbgaaCrcL
import Derived.Test.YtmbenaehnmdbgaaSeq
import Derived.Test.YtmbenaehnmdbgaaCrcB
namespace Go.Proofs.Ytmbenaehnmdbgaa
set_option linter.unusedSimpArgs false
set_option linter.unusedVariables false
open H
/-- The bytes while they are turned. -/
def xorK (a b c : List UInt8) : Nat → List UInt8
  | 0 => a
  | k + 1 => (xorK a b c k).set k ((xorK a b c k).getD k 0 ^^^ b.getD k 0 ^^^ c.getD k 0)
theorem xorK_len (a b c : List UInt8) (k : Nat) : (xorK a b c k).length = a.length := by
  induction k with
  | zero => rfl
  | succ k ih => simp [xorK, ih]
theorem xorK_val (a b c : List UInt8) (k : Nat) (hk : k ≤ a.length) (i : Nat) (hi : i < a.length) : (xorK a b c k).getD i 0 = if i < k then a.getD i 0 ^^^ b.getD i 0 ^^^ c.getD i 0 else a.getD i 0 := by
  induction k with
  | zero => simp [xorK]
  | succ k ih =>
    have ih := ih (by omega)
    simp only [xorK, List.getD_eq_getElem?_getD, List.getElem?_set] at ih ⊢
    by_cases h : k = i
    · subst h
      simp only [xorK_len, hi, if_true, Option.getD_some, show k < k + 1 by omega]
      have h2 : ((xorK a b c k)[k]?).getD 0 = (a[k]?).getD 0 := by rw [ih, if_neg (by omega)]
      rw [h2]
    · rw [if_neg h, ih]
      have : i < k + 1 ↔ i < k := by omega
      simp only [this]
theorem xorK_all (a b c : List UInt8) (h1 : a.length = b.length) (h2 : a.length = c.length) : xorK a b c a.length = Crc.xor2 (Crc.xor2 a b) c := by
  have hl1 := Crc.xor2_len a b h1
  refine List.ext_getElem? fun i => ?_
  by_cases hi : i < a.length
  · have hv := xorK_val a b c a.length (Nat.le_refl _) i hi
    rw [if_pos hi] at hv
    have e1 : (xorK a b c a.length)[i]? = some ((xorK a b c a.length).getD i 0) := by
      rw [List.getD_eq_getElem?_getD, List.getElem?_eq_getElem (by rw [xorK_len]; exact hi)]; rfl
    rw [e1, hv]
    simp only [Crc.xor2, List.getElem?_zipWith, List.getD_eq_getElem?_getD, List.getElem?_eq_getElem hi, List.getElem?_eq_getElem (h1 ▸ hi : i < b.length), List.getElem?_eq_getElem (h2 ▸ hi : i < c.length), Option.getD_some]
  · rw [List.getElem?_eq_none (by rw [xorK_len]; omega), List.getElem?_eq_none (by rw [Crc.xor2_len _ _ (by rw [hl1, h2]), hl1]; omega)]
theorem xorK_get (a b c : List UInt8) (sp : List Value) (k j : Nat) (hk : k < a.length) : ((xorK a b c j).map byte ++ sp)[k]? = some (byte ((xorK a b c j).getD k 0)) := brow_get _ _ _ (by rw [xorK_len]; exact hk)
theorem xorK_set (a b c : List UInt8) (sp : List Value) (k : Nat) (hk : k < a.length) : ((xorK a b c k).map byte ++ sp).set k (byte ((xorK a b c k).getD k 0 ^^^ b.getD k 0 ^^^ c.getD k 0)) = (xorK a b c (k + 1)).map byte ++ sp := brow_set _ _ _ _ (by rw [xorK_len]; exact hk)

set_option maxRecDepth 20000 in
set_option maxHeartbeats 400000 in
theorem law_linear (a b c : List UInt8) (w : World) : Does Try.prog 6 #[str a, str b, str c] w fun v w' => v = .bool true ∧ Ext [] w w' := by
  refine does (args := [str a, str b, str c]) Try.func6 rfl (by kernel_rfl) (by kernel_rfl) rfl ent_6 (Sat.start w []) ?_; intro QV hQ
  by_cases h1 : (1000 : Int) < (a.length : Int)
  · simp -implicitDefEqProofs (disch := omega) only [go_sem, h1, decide_true]
    refine RCall_eq crc_known ?_
    simp -implicitDefEqProofs (disch := omega) only [go_sem]
    exact hQ _ _ fun w' hs => ⟨rfl, hs.anchor (by simp)⟩
  by_cases h2 : (a.length : Int) = (b.length : Int)
  rotate_left
  · simp -implicitDefEqProofs (disch := omega) only [go_sem, h1, h2, decide_true, decide_false, not_false_eq_true]
    refine RCall_eq crc_known ?_
    simp -implicitDefEqProofs (disch := omega) only [go_sem]
    exact hQ _ _ fun w' hs => ⟨rfl, hs.anchor (by simp)⟩
  by_cases h3 : (a.length : Int) = (c.length : Int)
  rotate_left
  · simp -implicitDefEqProofs (disch := omega) only [go_sem, h1, ← h2, h3, decide_true, decide_false, not_false_eq_true, not_true]
    refine RCall_eq crc_known ?_
    simp -implicitDefEqProofs (disch := omega) only [go_sem]
    exact hQ _ _ fun w' hs => ⟨rfl, hs.anchor (by simp)⟩
  have hlin : Crc.of a ^^^ Crc.of b ^^^ Crc.of c = Crc.of (xorK a b c a.length) := by rw [xorK_all a b c (by omega) (by omega)]; exact Crc.of_xor3 a b c (by omega) (by omega)
  simp -implicitDefEqProofs (disch := omega) only [go_sem, h1, ← h2, ← h3, decide_true, decide_false, not_false_eq_true, not_true]
  refine RRun_bytes Try.underlying9 ⟨Try.underlying29, Try.underlying5⟩ fun g sp hg => ?_
  simp only [below_cons, below_nil, under_anchor, and_true] at hg
  simp -implicitDefEqProofs (disch := omega) only [go_sem]
  refine RLoop_intro (fun f h => ∃ k : Nat, k ≤ a.length ∧ f 0 = str a ∧ f 1 = str b ∧ f 2 = str c ∧ f 7 = .slice (some ⟨g, 0, none⟩) a.length (a.length + sp.length) ∧ f 8 = .int .i64 (k : Int) ∧
    h = [.cells g 5 ((xorK a b c k).map byte ++ sp).toArray, .anchor w []]) (fun f _ => (a.length - ival (f 8)).toNat) ?_ ?_
  · exact ⟨0, by omega, by simp -implicitDefEqProofs (disch := omega) only [go_sem], by simp -implicitDefEqProofs (disch := omega) only [go_sem], by simp -implicitDefEqProofs (disch := omega) only [go_sem], by simp -implicitDefEqProofs (disch := omega) only [go_sem], by simp -implicitDefEqProofs (disch := omega) only [go_sem]; rfl, rfl⟩
  rintro f h ⟨k, hk, e0, e1, e2, e7, e8, rfl⟩ Q' hQ'
  have hkl := xorK_len a b c k
  simp -implicitDefEqProofs (disch := omega) only [go_sem, e7, e8]
  refine RC_intro (fun hc => ?_) (fun hc => ?_)
  · simp only [decide_eq_true_eq] at hc
    have hget := xorK_get a b c sp k k (by omega)
    simp -implicitDefEqProofs (disch := omega) only [go_sem]
    refine RDraw_to 15 (by kernel_rfl) (by kernel_rfl) (by kernel_rfl) ?_
    repeat (first | refine Tr_step (fun Q hq => by (simp -implicitDefEqProofs (disch := omega) only [go_sem, e0, e1, e2, e7, e8, hget, hkl]; exact hq)) ?_ | refine Tr_guard (by (simp -implicitDefEqProofs only [go_sem, e0, e1, e2, e7, e8, hget, hkl])) (fun Q hq => by (simp -implicitDefEqProofs (disch := omega) only [go_sem, e0, e1, e2, e7, e8, hget, hkl]; exact hq)) ?_)
    refine To_nil ?_
    simp -implicitDefEqProofs (disch := omega) only [go_sem, e8, xorK_set a b c sp k (by omega), hkl, List.drop_succ_cons, List.drop_zero]
    refine hQ' _ _ _ (fun _ h => h) ⟨k + 1, by omega, ?_, ?_, ?_, ?_, ?_, rfl⟩ ?_
    · simp -implicitDefEqProofs (disch := omega) only [go_sem, e0]
    · simp -implicitDefEqProofs (disch := omega) only [go_sem, e1]
    · simp -implicitDefEqProofs (disch := omega) only [go_sem, e2]
    · simp -implicitDefEqProofs (disch := omega) only [go_sem, e7]
    · simp -implicitDefEqProofs (disch := omega) only [go_sem]; rfl
    · simp -implicitDefEqProofs (disch := omega) only [go_sem, e8]; omega
  · simp only [decide_eq_false_iff_not] at hc
    have hks : k = a.length := by omega
    subst hks
    simp -implicitDefEqProofs (disch := omega) only [go_sem]
    refine RDraw_to 16 (by kernel_rfl) (by kernel_rfl) (by kernel_rfl) ?_
    repeat (first | refine Tr_step (fun Q hq => by (simp -implicitDefEqProofs (disch := omega) only [go_sem, e0]; exact hq)) ?_ | refine Tr_guard (by (simp -implicitDefEqProofs only [go_sem, e0])) (fun Q hq => by (simp -implicitDefEqProofs (disch := omega) only [go_sem, e0]; exact hq)) ?_)
    first | refine Tr_step (fun Q hq => by (simp -implicitDefEqProofs (disch := omega) only [go_sem, e0]; refine RCall_eq (crc_of _ (by omega)) ?_; simp -implicitDefEqProofs (disch := omega) only [go_sem, e0]; exact hq)) ?_ | refine Tr_guard (by (simp -implicitDefEqProofs only [go_sem, e0])) (fun Q hq => by (simp -implicitDefEqProofs (disch := omega) only [go_sem, e0]; refine RCall_eq (crc_of _ (by omega)) ?_; simp -implicitDefEqProofs (disch := omega) only [go_sem, e0]; exact hq)) ?_
    repeat (first | refine Tr_step (fun Q hq => by (simp -implicitDefEqProofs (disch := omega) only [go_sem, e1]; exact hq)) ?_ | refine Tr_guard (by (simp -implicitDefEqProofs only [go_sem, e1])) (fun Q hq => by (simp -implicitDefEqProofs (disch := omega) only [go_sem, e1]; exact hq)) ?_)
    first | refine Tr_step (fun Q hq => by (simp -implicitDefEqProofs (disch := omega) only [go_sem, e1]; refine RCall_eq (crc_of _ (by omega)) ?_; simp -implicitDefEqProofs (disch := omega) only [go_sem, e1]; exact hq)) ?_ | refine Tr_guard (by (simp -implicitDefEqProofs only [go_sem, e1])) (fun Q hq => by (simp -implicitDefEqProofs (disch := omega) only [go_sem, e1]; refine RCall_eq (crc_of _ (by omega)) ?_; simp -implicitDefEqProofs (disch := omega) only [go_sem, e1]; exact hq)) ?_
    repeat (first | refine Tr_step (fun Q hq => by (simp -implicitDefEqProofs (disch := omega) only [go_sem, e2]; exact hq)) ?_ | refine Tr_guard (by (simp -implicitDefEqProofs only [go_sem, e2])) (fun Q hq => by (simp -implicitDefEqProofs (disch := omega) only [go_sem, e2]; exact hq)) ?_)
    first | refine Tr_step (fun Q hq => by (simp -implicitDefEqProofs (disch := omega) only [go_sem, e2]; refine RCall_eq (crc_of _ (by omega)) ?_; simp -implicitDefEqProofs (disch := omega) only [go_sem, e2]; exact hq)) ?_ | refine Tr_guard (by (simp -implicitDefEqProofs only [go_sem, e2])) (fun Q hq => by (simp -implicitDefEqProofs (disch := omega) only [go_sem, e2]; refine RCall_eq (crc_of _ (by omega)) ?_; simp -implicitDefEqProofs (disch := omega) only [go_sem, e2]; exact hq)) ?_
    repeat (first | refine Tr_step (fun Q hq => by (simp -implicitDefEqProofs (disch := omega) only [go_sem, e7]; exact hq)) ?_ | refine Tr_guard (by (simp -implicitDefEqProofs only [go_sem, e7])) (fun Q hq => by (simp -implicitDefEqProofs (disch := omega) only [go_sem, e7]; exact hq)) ?_)
    refine Tr_step (fun Q hq => by (simp -implicitDefEqProofs (disch := omega) only [go_sem]; refine RRun_str_row ⟨Try.underlying29, Try.underlying5⟩ Try.underlying9 hkl ?_; simp -implicitDefEqProofs (disch := omega) only [go_sem]; exact hq)) ?_
    repeat (first | refine Tr_step (fun Q hq => by (simp -implicitDefEqProofs (disch := omega) only [go_sem]; exact hq)) ?_ | refine Tr_guard (by (simp -implicitDefEqProofs only [go_sem])) (fun Q hq => by (simp -implicitDefEqProofs (disch := omega) only [go_sem]; exact hq)) ?_)
    first | refine Tr_step (fun Q hq => by (simp -implicitDefEqProofs (disch := omega) only [go_sem]; refine RCall_eq (crc_of _ (by omega)) ?_; simp -implicitDefEqProofs (disch := omega) only [go_sem]; exact hq)) ?_ | refine Tr_guard (by (simp -implicitDefEqProofs only [go_sem])) (fun Q hq => by (simp -implicitDefEqProofs (disch := omega) only [go_sem]; refine RCall_eq (crc_of _ (by omega)) ?_; simp -implicitDefEqProofs (disch := omega) only [go_sem]; exact hq)) ?_
    simp only [hlin]
    repeat (first | refine Tr_step (fun Q hq => by (simp -implicitDefEqProofs (disch := omega) only [go_sem]; exact hq)) ?_ | refine Tr_guard (by (simp -implicitDefEqProofs only [go_sem])) (fun Q hq => by (simp -implicitDefEqProofs (disch := omega) only [go_sem]; exact hq)) ?_)
    first | refine Tr_step (fun Q hq => by (simp -implicitDefEqProofs (disch := omega) only [go_sem]; refine RCall_eq (crc_known) ?_; simp -implicitDefEqProofs (disch := omega) only [go_sem]; exact hq)) ?_ | refine Tr_guard (by (simp -implicitDefEqProofs only [go_sem])) (fun Q hq => by (simp -implicitDefEqProofs (disch := omega) only [go_sem]; refine RCall_eq (crc_known) ?_; simp -implicitDefEqProofs (disch := omega) only [go_sem]; exact hq)) ?_
    repeat (first | refine Tr_step (fun Q hq => by (simp -implicitDefEqProofs (disch := omega) only [go_sem]; exact hq)) ?_ | refine Tr_guard (by (simp -implicitDefEqProofs only [go_sem])) (fun Q hq => by (simp -implicitDefEqProofs (disch := omega) only [go_sem]; exact hq)) ?_)
    refine To_nil ?_
    simp -implicitDefEqProofs (disch := omega) only [go_sem]
    exact hQ _ _ fun w' hs => ⟨rfl, hs.anchor (by simp)⟩
end Go.Proofs.Ytmbenaehnmdbgaa
