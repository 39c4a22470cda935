/- gzhead: the walk: a head read. -/
import Derived.Test.YtlmbebnpnnkhmaaGzF
namespace Go.Proofs.Ytlmbebnpnnkhmaa
set_option linter.unusedSimpArgs false
set_option linter.unusedVariables false
open H
theorem gz_num_at (s : List UInt8) (hsl : s.length ≤ 4611686018427387904) (p wd q : Nat) (hw : wd = 1 ∨ wd = 2 ∨ wd = 4) (hq : q = p + wd) (hle : q ≤ s.length) (g : Nat) (w : World) (hr : Row w g 82 #[str s, .int .i64 (p : Int), .bool false] ∧ g < w.heap.size) :
    Does Try.prog 49 #[.pointer (some ⟨g, 0, none⟩), .int .i64 (wd : Int)] w fun v w' => ∃ cs', Row w' g 82 cs' ∧ Ext [g] w w' ∧
      (v = .int .i64 (Vint.numS s p wd : Int) ∧ cs' = #[str s, .int .i64 (q : Int), .bool false]) := by
  subst hq
  have h := gz_num s hsl p false wd hw (by omega) g w hr
  have hc : Gz.can s p false wd = true := by unfold Gz.can; rw [decide_eq_true hle]; rfl
  rw [hc] at h
  exact h
theorem gz_num_no (s : List UInt8) (hsl : s.length ≤ 4611686018427387904) (p wd : Nat) (sh : Bool) (hw : wd = 1 ∨ wd = 2 ∨ wd = 4) (hp : p ≤ s.length) (hn : sh = true ∨ s.length < p + wd) (g : Nat) (w : World) (hr : Row w g 82 #[str s, .int .i64 (p : Int), .bool sh] ∧ g < w.heap.size) :
    Does Try.prog 49 #[.pointer (some ⟨g, 0, none⟩), .int .i64 (wd : Int)] w fun v w' => ∃ cs', Row w' g 82 cs' ∧ Ext [g] w w' ∧
      (v = .int .i64 0 ∧ cs' = #[str s, .int .i64 (p : Int), .bool true]) := by
  have h := gz_num s hsl p sh wd hw hp g w hr
  have hc : Gz.can s p sh wd = false := by
    unfold Gz.can
    rcases hn with rfl | hn
    · rfl
    · rw [decide_eq_false (by omega), Bool.and_false]
  rw [hc] at h
  exact h
theorem Gz.h0V : Gz.hdV Gz.h0 = .agg #[.int .i64 0, str [], str [], str [], .int .i64 0, .int .i64 0, .bool false, .bool false, .int .i64 0] := rfl
def Gz.parV (x : Gz.Hd × Int × Int) : Value := .tuple #[Gz.hdV x.1, .int .i64 x.2.1, .int .i64 x.2.2]
theorem Gz.parV_err (k : Int) : Gz.parV (Gz.h0, 0, k) = .tuple #[.agg #[.int .i64 0, str [], str [], str [], .int .i64 0, .int .i64 0, .bool false, .bool false, .int .i64 0], .int .i64 0, .int .i64 k] := rfl
set_option maxRecDepth 20000 in
set_option maxHeartbeats 8000000 in
theorem gz_parse (s : List UInt8) (hsl : s.length ≤ 4611686018427387904) (a : Int) (ha : -9223372036854775808 ≤ a ∧ a ≤ 9223372036854775807) (w : World) :
    Does Try.prog 30 #[str s, .int .i64 a] w fun v w' => v = Gz.parV (Gz.parse s a) ∧ Ext [] w w' := by
  refine does (args := [str s, .int .i64 a]) Try.func30 rfl (by kernel_rfl) (by kernel_rfl) rfl ent_30 (Sat.start w []) ?_; intro QV hQ
  have hP : Gz.parse s a = if a < 0 then (Gz.h0, 0, 1) else if (s.length : Int) < a ∨ (s.length : Int) - a < 10 then (Gz.h0, 0, 2) else Gz.parseN s a.toNat := rfl
  rw [hP] at hQ
  simp -implicitDefEqProofs (disch := omega) only [go_sem]
  refine RNew_intro fun g hg => ?_
  simp only [below_cons, below_nil, under_anchor, and_true] at hg
  by_cases h1 : a < 0
  · rw [if_pos h1, Gz.parV_err] at hQ
    simp -implicitDefEqProofs (disch := omega) only [go_sem, decide_eq_true h1]
    exact hQ _ _ fun w' hs => ⟨rfl, hs.anchor (by simp)⟩
  rw [if_neg h1] at hQ
  have k1 := decide_eq_false h1
  obtain ⟨p, rfl⟩ := Int.eq_ofNat_of_zero_le (show 0 ≤ a by omega)
  by_cases h2 : (s.length : Int) < (p : Int) ∨ (s.length : Int) - (p : Int) < 10
  · rw [if_pos h2, Gz.parV_err] at hQ
    by_cases h3 : (s.length : Int) < (p : Int)
    · simp -implicitDefEqProofs (disch := omega) only [go_sem, k1, decide_eq_true h3]
      exact hQ _ _ fun w' hs => ⟨rfl, hs.anchor (by simp)⟩
    · simp -implicitDefEqProofs (disch := omega) only [go_sem, k1, decide_eq_false h3, decide_eq_true (h2.resolve_left h3)]
      exact hQ _ _ fun w' hs => ⟨rfl, hs.anchor (by simp)⟩
  rw [if_neg h2, Int.toNat_natCast] at hQ
  have k2 : decide ((s.length : Int) < (p : Int)) = false := decide_eq_false (by omega)
  have k3 : decide ((s.length : Int) - (p : Int) < 10) = false := decide_eq_false (by omega)
  have hp10 : p + 10 ≤ s.length := by omega
  unfold Gz.parseN at hQ
  obtain ⟨p3, hp3⟩ : ∃ k : Nat, k = p + 3 := ⟨_, rfl⟩
  have e3 : (p : Int) + 3 = (p3 : Int) := by omega
  have esl : p3 - p = 3 := by omega
  simp -implicitDefEqProofs (disch := omega) only [go_sem, k1, k2, k3, e3, esl]
  by_cases hm : (s.drop p).take 3 = [31, 139, 8]
  rotate_left
  · rw [if_pos hm, Gz.parV_err] at hQ
    simp -implicitDefEqProofs (disch := omega) only [go_sem, decide_eq_false hm]
    exact hQ _ _ fun w' hs => ⟨rfl, hs.anchor (by simp)⟩
  rw [if_neg (by simpa using hm)] at hQ
  simp -implicitDefEqProofs (disch := omega) only [go_sem, decide_eq_true hm]
  refine RNew_intro fun g1 hg1 => ?_
  simp only [below_cons, below_nil, under_anchor, under_cells, and_true] at hg1
  have ng1 : g ≠ g1 := Nat.ne_of_lt hg1.1
  have ng1' : g1 ≠ g := Ne.symm ng1
  simp -implicitDefEqProofs (disch := omega) only [go_sem, e3]
  refine RCall_mut [] _ rfl (fun w1 hs => gz_num_at s hsl p3 1 (p + 4) (by omega) (by omega) (by omega) g1 w1 (hs.row (by simp))) ?_
  rintro _ _ ⟨rfl, rfl⟩
  have hF0 : Vint.numS s p3 1 = (s.getD (p + 3) 0).toNat := by rw [Gz.numS_one, hp3]
  rw [hF0]
  have hFb : (s.getD (p + 3) 0).toNat < 256 := UInt8.toNat_lt _
  generalize (s.getD (p + 3) 0).toNat = F at *
  have hnot := andNot31 hFb
  by_cases hF : F < 32
  rotate_left
  · rw [decide_eq_false hF] at hnot
    rw [if_pos (by omega), Gz.parV_err] at hQ
    simp -implicitDefEqProofs (disch := omega) only [go_sem, hnot]
    exact hQ _ _ fun w' hs => ⟨rfl, hs.anchor (by simp)⟩
  rw [decide_eq_true hF] at hnot
  rw [if_neg (by omega)] at hQ
  simp -implicitDefEqProofs (disch := omega) only [go_sem, hnot]
  refine RCall_mut [] _ rfl (fun w1 hs => gz_num_at s hsl (p + 4) 4 (p + 8) (by omega) (by omega) (by omega) g1 w1 (hs.row (by simp))) ?_
  rintro _ _ ⟨rfl, rfl⟩
  have z1 : decide (bits BinOp.and IntKind.i64 (F : Int) 1 = 0) = !Gz.has F 1 := and_zero hF 1 (by omega)
  have z2 : decide (bits BinOp.and IntKind.i64 (F : Int) 2 = 0) = !Gz.has F 2 := and_zero hF 2 (by omega)
  have z28 := and28 hF
  simp -implicitDefEqProofs (disch := omega) only [go_sem, z1, z2, z28]
  refine RNew_intro fun g2 hg2 => ?_
  simp only [below_cons, below_nil, under_anchor, under_cells, and_true] at hg2
  have ng2 : g1 ≠ g2 := Nat.ne_of_lt hg2.1
  have ng2' : g2 ≠ g1 := Ne.symm ng2
  have ng3 : g ≠ g2 := by omega
  have ng3' : g2 ≠ g := Ne.symm ng3
  simp -implicitDefEqProofs (disch := omega) only [go_sem]
  refine RCall_mut [_] _ rfl (fun w1 hs => gz_num_at s hsl (p + 8) 1 (p + 9) (by omega) (by omega) (by omega) g1 w1 (hs.row (by simp))) ?_
  rintro _ _ ⟨rfl, rfl⟩
  simp -implicitDefEqProofs (disch := omega) only [go_sem]
  refine RCall_mut [_] _ rfl (fun w1 hs => gz_num_at s hsl (p + 9) 1 (p + 10) (by omega) (by omega) (by omega) g1 w1 (hs.row (by simp))) ?_
  rintro _ _ ⟨rfl, rfl⟩
  rw [Gz.numS_one, Gz.numS_one]
  simp -implicitDefEqProofs (disch := omega) only [go_sem]
  refine RCall_frame [.cells g1 82 #[str s, .int .i64 ((p + 10 : Nat) : Int), .bool false], .cells g2 49 #[.int .i64 (Vint.numS s (p + 4) 4 : Int), str [], str [], str [], .int .i64 ((s.getD (p + 8) 0).toNat : Int), .int .i64 ((s.getD (p + 9) 0).toNat : Int), .bool (Gz.has F 1), .bool (Gz.has F 2), .int .i64 ((F / 4 * 4 : Nat) : Int)]] _ [g1, g2] (fun w1 hs => hs.swap2) (by simp [Res.fp])
    (fun w1 hs => gz_fields s hsl F (p + 10) hF hp10 g1 g2 ng2 _ _ _ _ _ _ w1 (hs.reanchors (by simp [Res.fp]))) ?_
  rintro _ _ ⟨e, n, t, q, sh, rfl, hprog, rfl⟩
  have hle := prog_le hprog
  simp -implicitDefEqProofs (disch := omega) only [go_sem]
  have hcl : ((s.drop p).take (q - p)).length ≤ 4611686018427387904 := by rw [List.length_take, List.length_drop]; omega
  refine RCall_eq (gz_sum ((s.drop p).take (q - p)) (by omega)) ?_
  simp -implicitDefEqProofs (disch := omega) only [go_sem]
  unfold Gz.fin at hQ
  cases sh with
  | true =>
    rw [prog_dead hprog] at hQ
    simp only [Gz.parV_err] at hQ
    cases hh2 : Gz.has F 2 with
    | false =>
      simp -implicitDefEqProofs (disch := omega) only [go_sem]
      exact hQ _ _ fun w' hs => ⟨rfl, hs.anchor (by simp)⟩
    | true =>
      simp -implicitDefEqProofs (disch := omega) only [go_sem]
      refine RCall_mut [] _ rfl (fun w1 hs => gz_num_no s hsl q 2 true (by omega) hle.2 (.inl rfl) g1 w1 (hs.row (by simp))) ?_
      rintro _ _ ⟨rfl, rfl⟩
      simp -implicitDefEqProofs (disch := omega) only [go_sem]
      exact hQ _ _ fun w' hs => ⟨rfl, hs.anchor (by simp)⟩
  | false =>
  have hfl : Gz.flds s F (p + 10) = some (e, n, t, q) := hprog.2
  rw [hfl] at hQ
  simp only at hQ
  cases hh2 : Gz.has F 2 with
  | false =>
    rw [hh2, if_neg (by simp)] at hQ
    simp -implicitDefEqProofs (disch := omega) only [go_sem]
    refine RDraw_seg (by kernel_rfl) (by kernel_rfl) 8 rfl ?_
    refine RS_cutR [0, 1, 2, 3, 7] [4, 5, 6] (by decide +kernel) ?_
    refine RS_det (by kernel_rfl) ?_
    repeat (first | refine ToO_step (fun Q hq => by (simp -implicitDefEqProofs (disch := omega) only [go_sem]; exact hq)) ?_ | refine ToO_guard (by (simp -implicitDefEqProofs only [go_sem]; first | done | fail)) (fun Q hq => by (simp -implicitDefEqProofs (disch := omega) only [go_sem]; exact hq)) ?_ | refine ToO_skip (.inl (by (simp -implicitDefEqProofs only [go_sem]; first | done | fail))) ?_ | refine ToO_skip (.inr (by (simp -implicitDefEqProofs only [go_sem]; first | done | fail))) ?_)
    refine ToO_nil ?_
    refine RS_first [4, 5] (by kernel_rfl) ⟨?_, ?_, trivial⟩
    · simp -implicitDefEqProofs (disch := omega) only [go_sem]
      refine RS_cutR (L := [5, 6]) [6] [5] (by decide +kernel) ?_
      refine RS_det (by kernel_rfl) ?_
      repeat (first | refine ToO_step (fun Q hq => by (simp -implicitDefEqProofs (disch := omega) only [go_sem]; exact hq)) ?_ | refine ToO_guard (by (simp -implicitDefEqProofs only [go_sem]; first | done | fail)) (fun Q hq => by (simp -implicitDefEqProofs (disch := omega) only [go_sem]; exact hq)) ?_ | refine ToO_skip (.inl (by (simp -implicitDefEqProofs only [go_sem]; first | done | fail))) ?_ | refine ToO_skip (.inr (by (simp -implicitDefEqProofs only [go_sem]; first | done | fail))) ?_)
      refine ToO_nil ?_
      refine RS_text (by kernel_rfl) ?_
      simp -implicitDefEqProofs (disch := omega) only [go_sem]
      exact hQ _ _ fun w' hs => ⟨by unfold Gz.parV Gz.hdOf Gz.hdV; simp only [hh2], hs.anchor (by simp)⟩
    · simp -implicitDefEqProofs (disch := omega) only [go_sem]
      refine RS_text (L := [4, 6]) (by kernel_rfl) ?_
      simp -implicitDefEqProofs (disch := omega) only [go_sem]
      exact hQ _ _ fun w' hs => ⟨by unfold Gz.parV Gz.hdOf Gz.hdV; simp only [hh2], hs.anchor (by simp)⟩
  | true =>
    rw [hh2, if_pos rfl] at hQ
    by_cases hq2 : q + 2 ≤ s.length
    rotate_left
    · rw [if_neg hq2, Gz.parV_err] at hQ
      simp -implicitDefEqProofs (disch := omega) only [go_sem]
      refine RCall_mut [] _ rfl (fun w1 hs => gz_num_no s hsl q 2 false (by omega) hle.2 (.inr (by omega)) g1 w1 (hs.row (by simp))) ?_
      rintro _ _ ⟨rfl, rfl⟩
      simp -implicitDefEqProofs (disch := omega) only [go_sem]
      exact hQ _ _ fun w' hs => ⟨rfl, hs.anchor (by simp)⟩
    rw [if_pos hq2] at hQ
    simp -implicitDefEqProofs (disch := omega) only [go_sem]
    refine RCall_mut [] _ rfl (fun w1 hs => gz_num_at s hsl q 2 (q + 2) (by omega) rfl hq2 g1 w1 (hs.row (by simp))) ?_
    rintro _ _ ⟨rfl, rfl⟩
    by_cases hsum : Vint.numS s q 2 = Gz.sumOf ((s.drop p).take (q - p))
    · rw [if_pos hsum] at hQ
      have k : decide ((Vint.numS s q 2 : Int) = (Gz.sumOf ((s.drop p).take (q - p)) : Int)) = true := decide_eq_true (by omega)
      simp -implicitDefEqProofs (disch := omega) only [go_sem, k]
      refine RDraw_seg (by kernel_rfl) (by kernel_rfl) 8 rfl ?_
      refine RS_cutR [0, 1, 2, 3, 7] [4, 5, 6] (by decide +kernel) ?_
      refine RS_det (by kernel_rfl) ?_
      repeat (first | refine ToO_step (fun Q hq => by (simp -implicitDefEqProofs (disch := omega) only [go_sem]; exact hq)) ?_ | refine ToO_guard (by (simp -implicitDefEqProofs only [go_sem]; first | done | fail)) (fun Q hq => by (simp -implicitDefEqProofs (disch := omega) only [go_sem]; exact hq)) ?_ | refine ToO_skip (.inl (by (simp -implicitDefEqProofs only [go_sem]; first | done | fail))) ?_ | refine ToO_skip (.inr (by (simp -implicitDefEqProofs only [go_sem]; first | done | fail))) ?_)
      refine ToO_nil ?_
      refine RS_first [4, 5] (by kernel_rfl) ⟨?_, ?_, trivial⟩
      · simp -implicitDefEqProofs (disch := omega) only [go_sem]
        refine RS_cutR (L := [5, 6]) [6] [5] (by decide +kernel) ?_
        refine RS_det (by kernel_rfl) ?_
        repeat (first | refine ToO_step (fun Q hq => by (simp -implicitDefEqProofs (disch := omega) only [go_sem]; exact hq)) ?_ | refine ToO_guard (by (simp -implicitDefEqProofs only [go_sem]; first | done | fail)) (fun Q hq => by (simp -implicitDefEqProofs (disch := omega) only [go_sem]; exact hq)) ?_ | refine ToO_skip (.inl (by (simp -implicitDefEqProofs only [go_sem]; first | done | fail))) ?_ | refine ToO_skip (.inr (by (simp -implicitDefEqProofs only [go_sem]; first | done | fail))) ?_)
        refine ToO_nil ?_
        refine RS_text (by kernel_rfl) ?_
        simp -implicitDefEqProofs (disch := omega) only [go_sem]
        exact hQ _ _ fun w' hs => ⟨by unfold Gz.parV Gz.hdOf Gz.hdV; simp only [hh2], hs.anchor (by simp)⟩
      · simp -implicitDefEqProofs (disch := omega) only [go_sem]
        refine RS_text (L := [4, 6]) (by kernel_rfl) ?_
        simp -implicitDefEqProofs (disch := omega) only [go_sem]
        exact hQ _ _ fun w' hs => ⟨by unfold Gz.parV Gz.hdOf Gz.hdV; simp only [hh2], hs.anchor (by simp)⟩
    · rw [if_neg hsum, Gz.parV_err] at hQ
      have k : decide ((Vint.numS s q 2 : Int) = (Gz.sumOf ((s.drop p).take (q - p)) : Int)) = false := decide_eq_false (by omega)
      simp -implicitDefEqProofs (disch := omega) only [go_sem, k]
      exact hQ _ _ fun w' hs => ⟨rfl, hs.anchor (by simp)⟩
end Go.Proofs.Ytlmbebnpnnkhmaa
