/- Tokens among the arguments, opened. -/
import Derived.Test.YtpdckakccegofaaOpen
import Derived.Test.YtpdckakccegofaaTokM
import Derived.Test.YtpdckakccegofaaTypes
namespace Go.Proofs.Ytpdckakccegofaa
set_option linter.unusedSimpArgs false
set_option linter.unusedVariables false
open H
open Go.ChangeShapes Go.WideShapes Go.ChangeAt Go.RowKit
theorem three {l : List Value} (h : l.length = 3) : ∃ a b c, l = [a, b, c] := by
  match l, h with
  | [a, b, c], _ => exact ⟨a, b, c, rfl⟩
theorem five {l : List Value} (h : l.length = 5) : ∃ a b c d e, l = [a, b, c, d, e] := by
  match l, h with
  | [a, b, c, d, e], _ => exact ⟨a, b, c, d, e, rfl⟩
theorem cells_int3 : Try.prog.cellsOf 3 = 1 := by kernel_rfl
theorem cells_tok : Try.prog.cellsOf 33 = 3 := by kernel_rfl
/-- A token's numbers are numbers of 64 bits. -/
def TkOk (t : Tok.Tk) : Prop := (-9223372036854775808 ≤ t.1 ∧ t.1 ≤ 9223372036854775807) ∧ (-9223372036854775808 ≤ t.2.1 ∧ t.2.1 ≤ 9223372036854775807) ∧ (-9223372036854775808 ≤ t.2.2 ∧ t.2.2 ≤ 9223372036854775807)
theorem as_tok {K : Type} {enc : TypeId × Value → K} {w : World} {base : Nat} {sp : Nat → Bool} {held : Bool} {cs : List Value} (h : As enc Try.prog w base sp held 33 cs) : ∃ x : Tok.Tk, cs = Tok.tkC x ∧ TkOk x := by
  obtain ⟨hl, hf⟩ := as_struct Try.underlying33 h
  rw [cells_tok] at hl
  obtain ⟨a, b, c, rfl⟩ := three hl
  have h0 := hf 0 _ rfl
  have h1 := hf 1 _ rfl
  have h2 := hf 2 _ rfl
  obtain ⟨x0, e0, k0⟩ := as_i64 Try.underlying3 h0
  obtain ⟨x1, e1, k1⟩ := as_i64 Try.underlying3 h1
  obtain ⟨x2, e2, k2⟩ := as_i64 Try.underlying3 h2
  simp only [List.getElem_toArray, List.getElem_cons_zero, List.getElem_cons_succ, cells_int3, List.drop_succ_cons, List.drop_zero, List.take_succ_cons, List.take_zero, List.cons.injEq, and_true] at e0 e1 e2
  exact ⟨(x0, x1, x2), by rw [e0, e1, e2]; rfl, k0, k1, k2⟩
theorem open_toks {K : Type} {enc : TypeId × Value → K} {w : World} {base : Nat} {sp : Nat → Bool} {held : Bool} {cs : List Value} (h : As enc Try.prog w base sp held 22 cs) :
    ∃ (l : List Tok.Tk) (a : Option Addr) (c : Nat), cs = [.slice a l.length c] ∧ l.length ≤ maxLen ∧ l.length ≤ c ∧ Rd w a l.length 3 (ofL Tok.tkC Tok.tk0 l) ∧ ∀ x ∈ l, TkOk x :=
  open_things Tok.tk0 Try.underlying22 cells_tok (by decide) h fun _ _ h => as_tok h
theorem open_u8s {K : Type} {enc : TypeId × Value → K} {w : World} {base : Nat} {sp : Nat → Bool} {held : Bool} {cs : List Value} (h : As enc Try.prog w base sp held 27 cs) :
    ∃ (l : List UInt8) (a : Option Addr) (c : Nat), cs = [.slice a l.length c] ∧ l.length ≤ maxLen ∧ l.length ≤ c ∧ Rd w a l.length 1 (ofL (fun x => [byte x]) 0 l) ∧ ∀ x ∈ l, True :=
  open_things 0 Try.underlying27 (show Try.prog.cellsOf 5 = 1 by kernel_rfl) (by decide) h fun _ _ h => as_u8 Try.underlying5 h
theorem open_i8s {K : Type} {enc : TypeId × Value → K} {w : World} {base : Nat} {sp : Nat → Bool} {held : Bool} {cs : List Value} (h : As enc Try.prog w base sp held 28 cs) :
    ∃ (l : List Int) (a : Option Addr) (c : Nat), cs = [.slice a l.length c] ∧ l.length ≤ maxLen ∧ l.length ≤ c ∧ Rd w a l.length 1 (ofL (fun x => [.int .i8 x]) 0 l) ∧ ∀ x ∈ l, -128 ≤ x ∧ x ≤ 127 :=
  open_things 0 Try.underlying28 (show Try.prog.cellsOf 61 = 1 by kernel_rfl) (by decide) h fun _ _ h => by
    obtain ⟨x, h1, h2⟩ := as_int Try.underlying61 h
    refine ⟨x, h1, ?_⟩
    simp only [Lit.wf, Bool.and_eq_true, decide_eq_true_eq] at h2
    exact ⟨h2.1, h2.2⟩
theorem open_ask {K : Type} {enc : TypeId × Value → K} {w : World} {base : Nat} {sp : Nat → Bool} {held : Bool} {cs : List Value} (h : As enc Try.prog w base sp held 30 cs) :
    ∃ (ns : List UInt8) (ks : List Int) (a a2 : Option Addr) (c c2 : Nat) (n lo hi : Int), cs = [.slice a ns.length c, .slice a2 ks.length c2, .int .i64 n, .int .i64 lo, .int .i64 hi] ∧ ks.length ≤ maxLen ∧ (∀ k ∈ ks, -128 ≤ k ∧ k ≤ 127) ∧
      Rd w a ns.length 1 (ofL (fun x => [byte x]) 0 ns) ∧ Rd w a2 ks.length 1 (ofL (fun x => [.int .i8 x]) 0 ks) ∧ (-9223372036854775808 ≤ n ∧ n ≤ 9223372036854775807) ∧ (-9223372036854775808 ≤ lo ∧ lo ≤ 9223372036854775807) ∧ (-9223372036854775808 ≤ hi ∧ hi ≤ 9223372036854775807) := by
  obtain ⟨hl, hf⟩ := as_struct Try.underlying30 h
  rw [show Try.prog.cellsOf 30 = 5 by kernel_rfl] at hl
  obtain ⟨a, b, c, d, e, rfl⟩ := five hl
  obtain ⟨ns, a1, c1, e0, _, _, r1, _⟩ := open_u8s (hf 0 _ rfl)
  obtain ⟨ks, a2, c2, e1, m2, _, r2, k2⟩ := open_i8s (hf 1 _ rfl)
  obtain ⟨x2, e2, k3⟩ := as_i64 Try.underlying3 (hf 2 _ rfl)
  obtain ⟨x3, e3, k4⟩ := as_i64 Try.underlying3 (hf 3 _ rfl)
  obtain ⟨x4, e4, k5⟩ := as_i64 Try.underlying3 (hf 4 _ rfl)
  simp only [List.getElem_toArray, List.getElem_cons_zero, List.getElem_cons_succ, cells_int3, show Try.prog.cellsOf 27 = 1 by kernel_rfl, show Try.prog.cellsOf 28 = 1 by kernel_rfl, List.drop_succ_cons, List.drop_zero, List.take_succ_cons, List.take_zero, List.cons.injEq, and_true] at e0 e1 e2 e3 e4
  exact ⟨ns, ks, a1, a2, c1, c2, x2, x3, x4, by rw [e0, e1, e2, e3, e4], m2, k2, r1, r2, k3, k4, k5⟩
end Go.Proofs.Ytpdckakccegofaa
