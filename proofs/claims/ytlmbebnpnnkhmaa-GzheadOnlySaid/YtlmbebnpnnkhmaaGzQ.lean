/- Heads among the arguments, opened. -/
import Derived.Test.YtlmbebnpnnkhmaaOpen
import Derived.Test.YtlmbebnpnnkhmaaGzI
import Derived.Test.YtlmbebnpnnkhmaaTypes
namespace Go.Proofs.Ytlmbebnpnnkhmaa
set_option linter.unusedSimpArgs false
set_option linter.unusedVariables false
open H
open Go.ChangeShapes Go.WideShapes Go.ChangeAt Go.RowKit
theorem nine_of {l : List Value} (h : l.length = 9) : ∃ a b c d e f g i j, l = [a, b, c, d, e, f, g, i, j] := by
  match l, h with
  | [a, b, c, d, e, f, g, i, j], _ => exact ⟨a, b, c, d, e, f, g, i, j, rfl⟩
theorem twelve_of {l : List Value} (h : l.length = 12) : ∃ (k : List Value) (a b c : Value), k.length = 9 ∧ l = k ++ [a, b, c] := by
  match l, h with
  | [a, b, c, d, e, f, g, i, j, x, y, z], _ => exact ⟨[a, b, c, d, e, f, g, i, j], x, y, z, rfl, rfl⟩
theorem cells_int1 : Try.prog.cellsOf 3 = 1 := by kernel_rfl
theorem cells_string1 : Try.prog.cellsOf 9 = 1 := by kernel_rfl
theorem cells_bool1 : Try.prog.cellsOf 4 = 1 := by kernel_rfl
theorem as_head {K : Type} {enc : TypeId × Value → K} {w : World} {base : Nat} {sp : Nat → Bool} {held : Bool} {cs : List Value} (h : As enc Try.prog w base sp held 49 cs) :
    ∃ x : Gz.Hd, cs = [.int .i64 x.time, str x.extra, str x.name, str x.note, .int .i64 x.level, .int .i64 x.os, .bool x.text, .bool x.sum, .int .i64 x.flags] ∧ Gz.Rg x := by
  obtain ⟨hl, hf⟩ := as_struct Try.underlying49 h
  rw [show Try.prog.cellsOf 49 = 9 by kernel_rfl] at hl
  obtain ⟨v0, v1, v2, v3, v4, v5, v6, v7, v8, rfl⟩ := nine_of hl
  obtain ⟨x0, e0, k0⟩ := as_i64 Try.underlying3 (hf 0 _ rfl)
  obtain ⟨x1, e1, k1⟩ := as_string Try.underlying9 (hf 1 _ rfl)
  obtain ⟨x2, e2, k2⟩ := as_string Try.underlying9 (hf 2 _ rfl)
  obtain ⟨x3, e3, k3⟩ := as_string Try.underlying9 (hf 3 _ rfl)
  obtain ⟨x4, e4, k4⟩ := as_i64 Try.underlying3 (hf 4 _ rfl)
  obtain ⟨x5, e5, k5⟩ := as_i64 Try.underlying3 (hf 5 _ rfl)
  obtain ⟨x6, e6, _⟩ := as_bool Try.underlying4 (hf 6 _ rfl)
  obtain ⟨x7, e7, _⟩ := as_bool Try.underlying4 (hf 7 _ rfl)
  obtain ⟨x8, e8, k8⟩ := as_i64 Try.underlying3 (hf 8 _ rfl)
  simp only [List.getElem_toArray, List.getElem_cons_zero, List.getElem_cons_succ, cells_int1, cells_string1, cells_bool1, List.drop_succ_cons, List.drop_zero, List.take_succ_cons, List.take_zero, List.cons.injEq, and_true] at e0 e1 e2 e3 e4 e5 e6 e7 e8
  exact ⟨⟨x0, x1, x2, x3, x4, x5, x6, x7, x8⟩, by rw [e0, e1, e2, e3, e4, e5, e6, e7, e8], ⟨k8, k0, k4, k5⟩⟩
theorem as_case {K : Type} {enc : TypeId × Value → K} {w : World} {base : Nat} {sp : Nat → Bool} {held : Bool} {cs : List Value} (h : As enc Try.prog w base sp held 56 cs) :
    ∃ (x : Gz.Hd) (a c : List UInt8) (cut : Int), cs = [.int .i64 x.time, str x.extra, str x.name, str x.note, .int .i64 x.level, .int .i64 x.os, .bool x.text, .bool x.sum, .int .i64 x.flags, str a, str c, .int .i64 cut] ∧ Gz.Rg x ∧ (-9223372036854775808 ≤ cut ∧ cut ≤ 9223372036854775807) := by
  obtain ⟨hl, hf⟩ := as_struct Try.underlying56 h
  rw [show Try.prog.cellsOf 56 = 12 by kernel_rfl] at hl
  obtain ⟨k, v0, v1, v2, hk, rfl⟩ := twelve_of hl
  obtain ⟨u0, u1, u2, u3, u4, u5, u6, u7, u8, rfl⟩ := nine_of hk
  have c9 : Try.prog.cellsOf 49 = 9 := by kernel_rfl
  have h0 := hf 0 _ rfl
  obtain ⟨x1, e1, _⟩ := as_string Try.underlying9 (hf 1 _ rfl)
  obtain ⟨x2, e2, _⟩ := as_string Try.underlying9 (hf 2 _ rfl)
  obtain ⟨x3, e3, k3⟩ := as_i64 Try.underlying3 (hf 3 _ rfl)
  simp only [List.getElem_toArray, List.getElem_cons_zero, List.getElem_cons_succ, c9, cells_int1, cells_string1, cells_bool1, List.cons_append, List.nil_append, List.drop_succ_cons, List.drop_zero, List.take_succ_cons, List.take_zero, List.cons.injEq, and_true] at h0 e1 e2 e3
  obtain ⟨x, e0, hr⟩ := as_head h0
  simp only [List.cons.injEq, and_true] at e0
  obtain ⟨a0, a1, a2, a3, a4, a5, a6, a7, a8⟩ := e0
  exact ⟨x, x1, x2, x3, by rw [a0, a1, a2, a3, a4, a5, a6, a7, a8, e1, e2, e3]; rfl, hr, k3⟩
end Go.Proofs.Ytlmbebnpnnkhmaa
