/- node and its reference: the walks: what is right; numbers. -/
import Derived.Test.YtlmbebnpnnkhmaaVNum
import Derived.Test.YtlmbebnpnnkhmaaNodeM
import Derived.Test.YtlmbebnpnnkhmaaRead
import Derived.Test.YtlmbebnpnnkhmaaAgg
import Derived.Test.YtlmbebnpnnkhmaaSeg
namespace Go.Proofs.Ytlmbebnpnnkhmaa
set_option linter.unusedSimpArgs false
set_option linter.unusedVariables false
open H
theorem three_at {w : World} {a : Option Addr} {l : List Tok.Tk} (hr : Rd w a l.length 3 (ofL Tok.tkC Tok.tk0 l)) (i : Nat) (hi : i < l.length) :
    ∃ b o, a = some ⟨b, o, none⟩ ∧ b < w.heap.size ∧ cellsN w ⟨b, o + i * 3, none⟩ 3 = some #[.int .i64 (l.getD i Tok.tk0).1, .int .i64 (l.getD i Tok.tk0).2.1, .int .i64 (l.getD i Tok.tk0).2.2] ∧
      w.cell? ⟨b, o + i * 3, none⟩ = some (.int .i64 (l.getD i Tok.tk0).1) ∧ w.cell? ⟨b, o + i * 3 + 1, none⟩ = some (.int .i64 (l.getD i Tok.tk0).2.1) ∧ w.cell? ⟨b, o + i * 3 + 2, none⟩ = some (.int .i64 (l.getD i Tok.tk0).2.2) := by
  obtain ⟨b, o, e, hb, hc, hj⟩ := hr.at_ i hi
  refine ⟨b, o, e, hb, hc, ?_, ?_, ?_⟩
  · have := hj 0 (by omega); exact this
  · have := hj 1 (by omega); exact this
  · have := hj 2 (by omega); exact this

set_option maxHeartbeats 1000000 in
theorem node_between (n lo hi : Int) (w : World) : Does Try.prog 36 #[.int .i64 n, .int .i64 lo, .int .i64 hi] w fun v w' => v = .bool (Nd.btw n lo hi) ∧ Ext [] w w' := by
  refine does (args := [.int .i64 n, .int .i64 lo, .int .i64 hi]) Try.func36 rfl (by kernel_rfl) (by kernel_rfl) rfl ent_36 (Sat.start w []) ?_; intro QV hQ
  unfold Nd.btw at hQ
  by_cases h1 : lo ≤ n
  · by_cases h2 : n ≤ hi
    · simp -implicitDefEqProofs (disch := omega) only [go_sem, h1, h2, decide_true]
      exact hQ _ _ fun w' hs => ⟨by rw [decide_eq_true ⟨h1, h2⟩], hs.anchor (by simp)⟩
    · simp -implicitDefEqProofs (disch := omega) only [go_sem, h1, h2, decide_true, decide_false]
      exact hQ _ _ fun w' hs => ⟨by rw [decide_eq_false (fun h => h2 h.2)], hs.anchor (by simp)⟩
  · simp -implicitDefEqProofs (disch := omega) only [go_sem, h1, decide_false]
    exact hQ _ _ fun w' hs => ⟨by rw [decide_eq_false (fun h => h1 h.1)], hs.anchor (by simp)⟩

set_option maxHeartbeats 1000000 in
theorem rnode_in (n lo hi : Int) (w : World) : Does Try.prog 37 #[.int .i64 n, .int .i64 lo, .int .i64 hi] w fun v w' => v = .bool (Nd.btw n lo hi) ∧ Ext [] w w' := by
  refine does (args := [.int .i64 n, .int .i64 lo, .int .i64 hi]) Try.func37 rfl (by kernel_rfl) (by kernel_rfl) rfl ent_37 (Sat.start w []) ?_; intro QV hQ
  unfold Nd.btw at hQ
  by_cases h1 : lo ≤ n
  · by_cases h2 : n ≤ hi
    · simp -implicitDefEqProofs (disch := omega) only [go_sem, h1, h2, decide_true]
      exact hQ _ _ fun w' hs => ⟨by rw [decide_eq_true ⟨h1, h2⟩], hs.anchor (by simp)⟩
    · simp -implicitDefEqProofs (disch := omega) only [go_sem, h1, h2, decide_true, decide_false]
      exact hQ _ _ fun w' hs => ⟨by rw [decide_eq_false (fun h => h2 h.2)], hs.anchor (by simp)⟩
  · simp -implicitDefEqProofs (disch := omega) only [go_sem, h1, decide_false]
    exact hQ _ _ fun w' hs => ⟨by rw [decide_eq_false (fun h => h1 h.1)], hs.anchor (by simp)⟩

set_option maxHeartbeats 1000000 in
theorem node_token (t : Nd.Tk) (w : World) : Does Try.prog 18 #[.agg (List.toArray (Tok.tkC t))] w fun v w' => v = .bool (Nd.okT t) ∧ Ext [] w w' := by
  obtain ⟨a, n, k⟩ := t
  show Does _ _ #[.agg #[.int .i64 a, .int .i64 n, .int .i64 k]] _ _
  refine does (args := [.agg #[.int .i64 a, .int .i64 n, .int .i64 k]]) Try.func18 rfl (by kernel_rfl) (by kernel_rfl) rfl ent_18 (Sat.start w []) ?_; intro QV hQ
  have hv : Nd.okT (a, n, k) = (Nd.btw a 0 4294967295 && (Nd.btw n 1 4096 && Nd.btw k (-1) 31)) := rfl
  rw [hv] at hQ
  simp -implicitDefEqProofs (disch := omega) only [go_sem]
  refine RNew_intro fun g hg => ?_
  simp -implicitDefEqProofs (disch := omega) only [go_sem]
  refine RCall_eq (node_between a 0 4294967295) ?_
  cases hb : Nd.btw a 0 4294967295 with
  | false => simp -implicitDefEqProofs (disch := omega) only [go_sem]; exact hQ _ _ fun w' hs => ⟨by rw [hb]; rfl, hs.anchor (by simp)⟩
  | true =>
    simp -implicitDefEqProofs (disch := omega) only [go_sem]
    refine RCall_eq (node_between n 1 4096) ?_
    cases hb2 : Nd.btw n 1 4096 with
    | false => simp -implicitDefEqProofs (disch := omega) only [go_sem]; exact hQ _ _ fun w' hs => ⟨by rw [hb, hb2]; rfl, hs.anchor (by simp)⟩
    | true =>
      simp -implicitDefEqProofs (disch := omega) only [go_sem]
      refine RCall_eq (node_between k (-1) 31) ?_
      simp -implicitDefEqProofs (disch := omega) only [go_sem]
      exact hQ _ _ fun w' hs => ⟨by rw [hb, hb2]; rfl, hs.anchor (by simp)⟩

set_option maxHeartbeats 1000000 in
theorem rnode_token (t : Nd.Tk) (w : World) : Does Try.prog 19 #[.agg (List.toArray (Tok.tkC t))] w fun v w' => v = .bool (Nd.okT t) ∧ Ext [] w w' := by
  obtain ⟨a, n, k⟩ := t
  show Does _ _ #[.agg #[.int .i64 a, .int .i64 n, .int .i64 k]] _ _
  refine does (args := [.agg #[.int .i64 a, .int .i64 n, .int .i64 k]]) Try.func19 rfl (by kernel_rfl) (by kernel_rfl) rfl ent_19 (Sat.start w []) ?_; intro QV hQ
  have hv : Nd.okT (a, n, k) = (Nd.btw a 0 4294967295 && (Nd.btw n 1 4096 && Nd.btw k (-1) 31)) := rfl
  rw [hv] at hQ
  simp -implicitDefEqProofs (disch := omega) only [go_sem]
  refine RNew_intro fun g hg => ?_
  simp -implicitDefEqProofs (disch := omega) only [go_sem]
  refine RCall_eq (rnode_in a 0 4294967295) ?_
  cases hb : Nd.btw a 0 4294967295 with
  | false => simp -implicitDefEqProofs (disch := omega) only [go_sem]; exact hQ _ _ fun w' hs => ⟨by rw [hb]; rfl, hs.anchor (by simp)⟩
  | true =>
    simp -implicitDefEqProofs (disch := omega) only [go_sem]
    refine RCall_eq (rnode_in n 1 4096) ?_
    cases hb2 : Nd.btw n 1 4096 with
    | false => simp -implicitDefEqProofs (disch := omega) only [go_sem]; exact hQ _ _ fun w' hs => ⟨by rw [hb, hb2]; rfl, hs.anchor (by simp)⟩
    | true =>
      simp -implicitDefEqProofs (disch := omega) only [go_sem]
      refine RCall_eq (rnode_in k (-1) 31) ?_
      simp -implicitDefEqProofs (disch := omega) only [go_sem]
      exact hQ _ _ fun w' hs => ⟨by rw [hb, hb2]; rfl, hs.anchor (by simp)⟩

theorem kid_zero {a n k : Int} (h : a = 0 ∧ n = 0 ∧ k = 0) : Nd.okK (a, n, k) = false := by
  obtain ⟨rfl, rfl, rfl⟩ := h; rfl
set_option maxHeartbeats 1000000 in
theorem node_kid (t : Nd.Tk) (w : World) : Does Try.prog 35 #[.agg (List.toArray (Tok.tkC t))] w fun v w' => v = .bool (Nd.okK t) ∧ Ext [] w w' := by
  obtain ⟨a, n, k⟩ := t
  show Does _ _ #[.agg #[.int .i64 a, .int .i64 n, .int .i64 k]] _ _
  refine does (args := [.agg #[.int .i64 a, .int .i64 n, .int .i64 k]]) Try.func35 rfl (by kernel_rfl) (by kernel_rfl) rfl ent_35 (Sat.start w []) ?_; intro QV hQ
  have hv : Nd.okK (a, n, k) = (Nd.btw a 1 65535 && (Nd.btw n 1 4294967295 && Nd.btw k 0 4294967295)) := rfl
  by_cases hz : a = 0 ∧ n = 0 ∧ k = 0
  · obtain ⟨rfl, rfl, rfl⟩ := hz
    simp -implicitDefEqProofs (disch := omega) only [go_sem]
    refine RNew_intro fun g hg => ?_
    simp -implicitDefEqProofs (disch := omega) only [go_sem]
    exact hQ _ _ fun w' hs => ⟨rfl, hs.anchor (by simp)⟩
  have hne : (decide (a = 0) && (decide (n = 0) && decide (k = 0))) = false := by
    rw [Bool.eq_false_iff]; intro h
    simp only [Bool.and_eq_true, decide_eq_true_eq] at h
    exact hz h
  rw [hv] at hQ
  simp -implicitDefEqProofs (disch := omega) only [go_sem]
  refine RNew_intro fun g hg => ?_
  simp -implicitDefEqProofs (disch := omega) only [go_sem, hne]
  refine RCall_eq (node_between a 1 65535) ?_
  cases hb : Nd.btw a 1 65535 with
  | false => simp -implicitDefEqProofs (disch := omega) only [go_sem]; exact hQ _ _ fun w' hs => ⟨by rw [hb]; rfl, hs.anchor (by simp)⟩
  | true =>
    simp -implicitDefEqProofs (disch := omega) only [go_sem]
    refine RCall_eq (node_between n 1 4294967295) ?_
    cases hb2 : Nd.btw n 1 4294967295 with
    | false => simp -implicitDefEqProofs (disch := omega) only [go_sem]; exact hQ _ _ fun w' hs => ⟨by rw [hb, hb2]; rfl, hs.anchor (by simp)⟩
    | true =>
      simp -implicitDefEqProofs (disch := omega) only [go_sem]
      refine RCall_eq (node_between k 0 4294967295) ?_
      simp -implicitDefEqProofs (disch := omega) only [go_sem]
      exact hQ _ _ fun w' hs => ⟨by rw [hb, hb2]; rfl, hs.anchor (by simp)⟩
theorem rnode_num (n wd : Int) (hn : -9223372036854775808 ≤ n ∧ n ≤ 9223372036854775807) (w : World) : Does Try.prog 34 #[.int .i64 n, .int .i64 wd] w fun v w' => v = str (Nd.nb n wd) ∧ Ext [] w w' := by
  refine does (args := [.int .i64 n, .int .i64 wd]) Try.func34 rfl (by kernel_rfl) (by kernel_rfl) rfl ent_34 (Sat.start w []) ?_; intro QV hQ
  simp -implicitDefEqProofs (disch := omega) only [go_sem]
  refine RCall_eq (ref_fixed n wd hn) ?_
  simp -implicitDefEqProofs (disch := omega) only [go_sem]
  exact hQ _ _ fun w' hs => ⟨rfl, hs.anchor (by simp)⟩
theorem rnode_number (s : List UInt8) (hsl : s.length ≤ 9223372036854775807) (at_ wd : Int) (ha : -9223372036854775808 ≤ at_ ∧ at_ ≤ 9223372036854775807) (w : World) : Does Try.prog 39 #[str s, .int .i64 at_, .int .i64 wd] w fun v w' => v = .int .i64 (Vint.number s at_ wd).1 ∧ Ext [] w w' := by
  refine does (args := [str s, .int .i64 at_, .int .i64 wd]) Try.func39 rfl (by kernel_rfl) (by kernel_rfl) rfl ent_39 (Sat.start w []) ?_; intro QV hQ
  simp -implicitDefEqProofs (disch := omega) only [go_sem]
  refine RCall_eq (ref_number s hsl at_ wd ha) ?_
  simp -implicitDefEqProofs (disch := omega) only [go_sem]
  exact hQ _ _ fun w' hs => ⟨rfl, hs.anchor (by simp)⟩
end Go.Proofs.Ytlmbebnpnnkhmaa
