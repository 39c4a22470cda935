/- Points, starts and cases among the arguments, opened. -/
import Derived.Test.YtjcchmlideknpaaOpen
import Derived.Test.YtjcchmlideknpaaPtM
import Derived.Test.YtjcchmlideknpaaTypes
namespace Go.Proofs.Ytjcchmlideknpaa
set_option linter.unusedSimpArgs false
set_option linter.unusedVariables false
open H
open Go.ChangeShapes Go.WideShapes Go.ChangeAt Go.RowKit
theorem two_of {l : List Value} (h : l.length = 2) : ∃ a b, l = [a, b] := by
  match l, h with
  | [a, b], _ => exact ⟨a, b, rfl⟩
theorem five_of {l : List Value} (h : l.length = 5) : ∃ a b c d e, l = [a, b, c, d, e] := by
  match l, h with
  | [a, b, c, d, e], _ => exact ⟨a, b, c, d, e, rfl⟩
theorem six_of {l : List Value} (h : l.length = 6) : ∃ a b c d e f, l = [a, b, c, d, e, f] := by
  match l, h with
  | [a, b, c, d, e, f], _ => exact ⟨a, b, c, d, e, f, rfl⟩
theorem cells_i : Try.prog.cellsOf 3 = 1 := by kernel_rfl
theorem cells_s : Try.prog.cellsOf 9 = 1 := by kernel_rfl
theorem as_point {K : Type} {enc : TypeId × Value → K} {w : World} {base : Nat} {sp : Nat → Bool} {held : Bool} {cs : List Value} (h : As enc Try.prog w base sp held 46 cs) : ∃ x : Pt.P, cs = Pt.ptC x ∧ Pt.InR x := by
  obtain ⟨hl, hf⟩ := as_struct Try.underlying46 h
  rw [show Try.prog.cellsOf 46 = 5 by kernel_rfl] at hl
  obtain ⟨a, b, c, d, e, rfl⟩ := five_of hl
  obtain ⟨x0, e0, k0⟩ := as_i64 Try.underlying3 (hf 0 _ rfl)
  obtain ⟨x1, e1, k1⟩ := as_i64 Try.underlying3 (hf 1 _ rfl)
  obtain ⟨x2, e2, k2⟩ := as_i64 Try.underlying3 (hf 2 _ rfl)
  obtain ⟨x3, e3, k3⟩ := as_i64 Try.underlying3 (hf 3 _ rfl)
  obtain ⟨x4, e4, k4⟩ := as_string Try.underlying9 (hf 4 _ rfl)
  simp only [List.getElem_toArray, List.getElem_cons_zero, List.getElem_cons_succ, cells_i, cells_s, List.drop_succ_cons, List.drop_zero, List.take_succ_cons, List.take_zero, List.cons.injEq, and_true] at e0 e1 e2 e3 e4
  exact ⟨⟨x0, x1, x2, x3, x4⟩, by rw [e0, e1, e2, e3, e4]; rfl, k0, k1, k2, k3, k4⟩
theorem open_points {K : Type} {enc : TypeId × Value → K} {w : World} {base : Nat} {sp : Nat → Bool} {held : Bool} {cs : List Value} (h : As enc Try.prog w base sp held 22 cs) :
    ∃ (l : List Pt.P) (a : Option Addr) (c : Nat), cs = [.slice a l.length c] ∧ l.length ≤ maxLen ∧ l.length ≤ c ∧ Rd w a l.length 5 (ofL Pt.ptC Pt.p0 l) ∧ ∀ x ∈ l, Pt.InR x :=
  open_things Pt.p0 Try.underlying22 (show Try.prog.cellsOf 46 = 5 by kernel_rfl) (by decide) h fun _ _ h => as_point h
theorem as_start {K : Type} {enc : TypeId × Value → K} {w : World} {base : Nat} {sp : Nat → Bool} {held : Bool} {cs : List Value} (h : As enc Try.prog w base sp held 48 cs) : ∃ x : Pt.St, cs = Pt.stC x ∧ (Pt.In64 x.1 ∧ Pt.In64 x.2) := by
  obtain ⟨hl, hf⟩ := as_struct Try.underlying48 h
  rw [show Try.prog.cellsOf 48 = 2 by kernel_rfl] at hl
  obtain ⟨a, b, rfl⟩ := two_of hl
  obtain ⟨x0, e0, k0⟩ := as_i64 Try.underlying3 (hf 0 _ rfl)
  obtain ⟨x1, e1, k1⟩ := as_i64 Try.underlying3 (hf 1 _ rfl)
  simp only [List.getElem_toArray, List.getElem_cons_zero, List.getElem_cons_succ, cells_i, List.drop_succ_cons, List.drop_zero, List.take_succ_cons, List.take_zero, List.cons.injEq, and_true] at e0 e1
  exact ⟨(x0, x1), by rw [e0, e1]; rfl, k0, k1⟩
/-- What a case holds. -/
structure CaseAt (w : World) (st : List Pt.St) (t : List UInt8) (ns : List UInt8) (ks : List Int) (sp : Int) (a1 a2 a3 : Option Addr) : Prop where
  rS : Rd w a1 st.length 2 (ofL Pt.stC Pt.st0 st)
  rN : Rd w a2 ns.length 1 (ofL (fun x => [byte x]) 0 ns)
  rK : Rd w a3 ks.length 1 (ofL (fun x => [.int .i8 x]) 0 ks)
  inS : ∀ x ∈ st, Pt.In64 x.1 ∧ Pt.In64 x.2
  inK : ∀ k ∈ ks, -128 ≤ k ∧ k ≤ 127
  lS : st.length ≤ maxLen
  lT : t.length ≤ maxLen
  lN : ns.length ≤ maxLen
  lK : ks.length ≤ maxLen
  inSp : Pt.In64 sp
theorem open_case {K : Type} {enc : TypeId × Value → K} {w : World} {base : Nat} {sp : Nat → Bool} {held : Bool} {cs : List Value} (h : As enc Try.prog w base sp held 34 cs) :
    ∃ (st : List Pt.St) (t ns : List UInt8) (ks : List Int) (odd : Bool) (spc : Int) (a1 a2 a3 : Option Addr) (c1 c2 c3 : Nat), cs = [.slice a1 st.length c1, str t, .slice a2 ns.length c2, .slice a3 ks.length c3, .bool odd, .int .i64 spc] ∧ CaseAt w st t ns ks spc a1 a2 a3 := by
  obtain ⟨hl, hf⟩ := as_struct Try.underlying34 h
  rw [show Try.prog.cellsOf 34 = 6 by kernel_rfl] at hl
  obtain ⟨a, b, c, d, e, f, rfl⟩ := six_of hl
  obtain ⟨st, a1, c1, e0, m0, _, r0, k0⟩ := open_things Pt.st0 Try.underlying30 (show Try.prog.cellsOf 48 = 2 by kernel_rfl) (by decide) (hf 0 _ rfl) fun _ _ h => as_start h
  obtain ⟨t, e1, m1⟩ := as_string Try.underlying9 (hf 1 _ rfl)
  obtain ⟨ns, a2, c2, e2, m2, _, r2, _⟩ := open_things (cf := fun x => [byte x]) (ok := fun _ => True) 0 Try.underlying31 (show Try.prog.cellsOf 5 = 1 by kernel_rfl) (by decide) (hf 2 _ rfl) fun _ _ h => as_u8 Try.underlying5 h
  obtain ⟨ks, a3, c3, e3, m3, _, r3, k3⟩ := open_things (cf := fun x => [.int .i8 x]) (ok := fun x => -128 ≤ x ∧ x ≤ 127) 0 Try.underlying32 (show Try.prog.cellsOf 88 = 1 by kernel_rfl) (by decide) (hf 3 _ rfl) fun _ _ h => by
    obtain ⟨x, h1, h2⟩ := as_int Try.underlying88 h
    refine ⟨x, h1, ?_⟩
    simp only [Lit.wf, Bool.and_eq_true, decide_eq_true_eq] at h2
    exact ⟨h2.1, h2.2⟩
  obtain ⟨od, e4, _⟩ := as_bool Try.underlying4 (hf 4 _ rfl)
  obtain ⟨spc, e5, k5⟩ := as_i64 Try.underlying3 (hf 5 _ rfl)
  simp only [List.getElem_toArray, List.getElem_cons_zero, List.getElem_cons_succ, cells_i, cells_s, show Try.prog.cellsOf 4 = 1 by kernel_rfl, show Try.prog.cellsOf 30 = 1 by kernel_rfl, show Try.prog.cellsOf 31 = 1 by kernel_rfl, show Try.prog.cellsOf 32 = 1 by kernel_rfl, List.drop_succ_cons, List.drop_zero, List.take_succ_cons, List.take_zero, List.cons.injEq, and_true] at e0 e1 e2 e3 e4 e5
  exact ⟨st, t, ns, ks, od, spc, a1, a2, a3, c1, c2, c3, by rw [e0, e1, e2, e3, e4, e5], r0, r2, r3, k0, k3, m0, m1, m2, m3, k5⟩
end Go.Proofs.Ytjcchmlideknpaa
