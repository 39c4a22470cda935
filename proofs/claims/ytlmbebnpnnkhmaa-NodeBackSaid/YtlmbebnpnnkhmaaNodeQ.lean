/- Nodes among the arguments, opened. -/
import Derived.Test.YtlmbebnpnnkhmaaOpen
import Derived.Test.YtlmbebnpnnkhmaaNodeB
import Derived.Test.YtlmbebnpnnkhmaaTypes
namespace Go.Proofs.Ytlmbebnpnnkhmaa
set_option linter.unusedSimpArgs false
set_option linter.unusedVariables false
open H
open Go.ChangeShapes Go.WideShapes Go.ChangeAt Go.RowKit
theorem three_of {l : List Value} (h : l.length = 3) : ∃ a b c, l = [a, b, c] := by
  match l, h with
  | [a, b, c], _ => exact ⟨a, b, c, rfl⟩
theorem cells_i : Try.prog.cellsOf 3 = 1 := by kernel_rfl
theorem as_tok {K : Type} {enc : TypeId × Value → K} {w : World} {base : Nat} {sp : Nat → Bool} {held : Bool} {cs : List Value} (h : As enc Try.prog w base sp held 27 cs) : ∃ x : Tok.Tk, cs = Tok.tkC x ∧ True := by
  obtain ⟨hl, hf⟩ := as_struct Try.underlying27 h
  rw [show Try.prog.cellsOf 27 = 3 by kernel_rfl] at hl
  obtain ⟨a, b, c, rfl⟩ := three_of hl
  obtain ⟨x0, e0, k0⟩ := as_i64 Try.underlying3 (hf 0 _ rfl)
  obtain ⟨x1, e1, k1⟩ := as_i64 Try.underlying3 (hf 1 _ rfl)
  obtain ⟨x2, e2, k2⟩ := as_i64 Try.underlying3 (hf 2 _ rfl)
  simp only [List.getElem_toArray, List.getElem_cons_zero, List.getElem_cons_succ, cells_i, List.drop_succ_cons, List.drop_zero, List.take_succ_cons, List.take_zero, List.cons.injEq, and_true] at e0 e1 e2
  exact ⟨(x0, x1, x2), by rw [e0, e1, e2]; rfl, trivial⟩
theorem as_rkid {K : Type} {enc : TypeId × Value → K} {w : World} {base : Nat} {sp : Nat → Bool} {held : Bool} {cs : List Value} (h : As enc Try.prog w base sp held 65 cs) : ∃ x : Tok.Tk, cs = Tok.tkC x ∧ True := by
  obtain ⟨hl, hf⟩ := as_struct Try.underlying65 h
  rw [show Try.prog.cellsOf 65 = 3 by kernel_rfl] at hl
  obtain ⟨a, b, c, rfl⟩ := three_of hl
  obtain ⟨x0, e0, k0⟩ := as_i64 Try.underlying3 (hf 0 _ rfl)
  obtain ⟨x1, e1, k1⟩ := as_i64 Try.underlying3 (hf 1 _ rfl)
  obtain ⟨x2, e2, k2⟩ := as_i64 Try.underlying3 (hf 2 _ rfl)
  simp only [List.getElem_toArray, List.getElem_cons_zero, List.getElem_cons_succ, cells_i, List.drop_succ_cons, List.drop_zero, List.take_succ_cons, List.take_zero, List.cons.injEq, and_true] at e0 e1 e2
  exact ⟨(x0, x1, x2), by rw [e0, e1, e2]; rfl, trivial⟩
theorem open_rnode {K : Type} {enc : TypeId × Value → K} {w : World} {base : Nat} {sp : Nat → Bool} {held : Bool} {cs : List Value} (h : As enc Try.prog w base sp held 25 cs) :
    ∃ (n : Nd.N) (a1 a2 : Option Addr) (c1 c2 : Nat), cs = [.bool n.leaf, .slice a1 n.toks.length c1, .slice a2 n.kids.length c2] ∧ Nd.Mem w n a1 a2 := by
  obtain ⟨hl, hf⟩ := as_struct Try.underlying25 h
  rw [show Try.prog.cellsOf 25 = 3 by kernel_rfl] at hl
  obtain ⟨a, b, c, rfl⟩ := three_of hl
  obtain ⟨lf, e0, _⟩ := as_bool Try.underlying4 (hf 0 _ rfl)
  obtain ⟨ts, a1, c1, e1, _, _, r1, _⟩ := open_things Tok.tk0 Try.underlying22 (show Try.prog.cellsOf 27 = 3 by kernel_rfl) (by decide) (hf 1 _ rfl) fun _ _ h => as_tok h
  obtain ⟨ks, a2, c2, e2, _, _, r2, _⟩ := open_things Tok.tk0 Try.underlying23 (show Try.prog.cellsOf 65 = 3 by kernel_rfl) (by decide) (hf 2 _ rfl) fun _ _ h => as_rkid h
  simp only [List.getElem_toArray, List.getElem_cons_zero, List.getElem_cons_succ, show Try.prog.cellsOf 4 = 1 by kernel_rfl, show Try.prog.cellsOf 22 = 1 by kernel_rfl, show Try.prog.cellsOf 23 = 1 by kernel_rfl, List.drop_succ_cons, List.drop_zero, List.take_succ_cons, List.take_zero, List.cons.injEq, and_true] at e0 e1 e2
  exact ⟨⟨lf, ts, ks⟩, a1, a2, c1, c2, by rw [e0, e1, e2], r1, r2⟩
end Go.Proofs.Ytlmbebnpnnkhmaa
