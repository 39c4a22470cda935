/- Automata among the arguments, opened. -/
import Derived.Test.YtldidoaagijnhaaOpen
import Derived.Test.YtldidoaagijnhaaDfaMY4
import Derived.Test.YtldidoaagijnhaaTypes
import Derived.OpenShut
namespace Go.Proofs.Ytldidoaagijnhaa
set_option linter.unusedSimpArgs false
set_option linter.unusedVariables false
open H
open Go.ChangeShapes Go.WideShapes Go.ChangeAt Go.RowKit
theorem as_array {K : Type} {enc : TypeId × Value → K} {P : Program} {w : World} {base : Nat} {sp : Nat → Bool} {held : Bool} {t e : TypeId} {n : Nat} {cs : List Value} (ht : P.underlying t = some (.array n e)) (h : As enc P w base sp held t cs) :
    cs.length = P.cellsOf t ∧ ∀ i, i < n → As enc P w base sp held e ((cs.drop (i * P.cellsOf e)).take (P.cellsOf e)) := by
  obtain ⟨fuel, x, hf⟩ := h
  obtain ⟨xs, m, _, _, hl, hlen, hel⟩ := DataW.trod_array ht hf
  refine ⟨hl, fun i hi => ?_⟩
  exact ⟨m, xs[i]'(by omega), (hel i hi).trans (List.getElem?_eq_getElem (by omega))⟩
/-- An array of ints. -/
theorem as_ints_arr {K : Type} {enc : TypeId × Value → K} {P : Program} {w : World} {base : Nat} {sp : Nat → Bool} {held : Bool} {t e : TypeId} {n : Nat} {cs : List Value} (ht : P.underlying t = some (.array n e)) (he : P.underlying e = some (.int .i64)) (hc : P.cellsOf e = 1) (hn : P.cellsOf t = n) (h : As enc P w base sp held t cs) :
    ∃ F : Nat → Int, cs = vals n (intsV F .i64) := by
  obtain ⟨hl, hel⟩ := as_array ht h
  rw [hn] at hl
  refine ⟨fun i => match cs[i]? with | some (.int .i64 x) => x | _ => 0, ?_⟩
  apply List.ext_getElem (by rw [hl, vals_len])
  intro i h1 h2
  have hi : i < n := by omega
  obtain ⟨x, hx, _⟩ := as_i64 he (hel i hi)
  rw [hc, Nat.mul_one] at hx
  have hd : cs[i]? = some (.int .i64 x) := by
    have := congrArg (fun l : List Value => l[0]?) hx
    simpa [List.getElem?_take, List.getElem?_drop] using this
  have hg := vals_get n (intsV (fun i => match cs[i]? with | some (.int .i64 x) => x | _ => 0) .i64) i hi
  rw [List.getElem?_eq_getElem h2] at hg
  have hg' := Option.some.inj hg
  rw [hg']
  have h3 : cs[i] = .int .i64 x := by
    rw [List.getElem?_eq_getElem h1] at hd
    exact Option.some.inj hd
  rw [h3]
  show _ = Value.int .i64 (match cs[i]? with | some (.int .i64 x) => x | _ => 0)
  rw [hd]
theorem open_ints {K : Type} {enc : TypeId × Value → K} {w : World} {base : Nat} {sp : Nat → Bool} {held : Bool} {cs : List Value} (h : As enc Try.prog w base sp held 46 cs) :
    ∃ (l : List Int) (a : Option Addr) (c : Nat), cs = [.slice a l.length c] ∧ l.length ≤ maxLen ∧ l.length ≤ c ∧ Rd w a l.length 1 (Dfa.ints l) ∧ ∀ x ∈ l, (-9223372036854775808 ≤ x ∧ x ≤ 9223372036854775807) :=
  open_things 0 Try.underlying46 (show Try.prog.cellsOf 3 = 1 by kernel_rfl) (by decide) h fun _ _ h => as_i64 Try.underlying3 h
/-- Rows of ints. -/
theorem open_intss {K : Type} {enc : TypeId × Value → K} {w : World} {base : Nat} {sp : Nat → Bool} {held : Bool} {cs : List Value} (h : As enc Try.prog w base sp held 45 cs) :
    ∃ (l : List (List Int)) (a : Option Addr) (c : Nat) (ra : Nat → Option Addr) (rc : Nat → Nat), cs = [.slice a l.length c] ∧ l.length ≤ maxLen ∧ Rd w a l.length 1 (fun i => [.slice (ra i) (l.getD i []).length (rc i)]) ∧ ∀ i, i < l.length → (l.getD i []).length ≤ maxLen ∧ Rd w (ra i) (l.getD i []).length 1 (Dfa.ints (l.getD i [])) := by
  have hk : ∀ c, c.length = 1 → As enc Try.prog w base sp held 46 c → ∃ x : List Int × Option Addr × Nat, c = [.slice x.2.1 x.1.length x.2.2] ∧ (x.1.length ≤ maxLen ∧ Rd w x.2.1 x.1.length 1 (Dfa.ints x.1)) := by
    intro c _ hc
    obtain ⟨l, a, c, h1, h2, _, h4, _⟩ := open_ints hc
    exact ⟨(l, a, c), h1, h2, h4⟩
  obtain ⟨l, a, c, h1, h2, h3, h4, h5⟩ := open_things ([], none, 0) Try.underlying45 (show Try.prog.cellsOf 46 = 1 by kernel_rfl) (by decide) h hk
  have hg : ∀ i, (l.map (·.1)).getD i [] = (l.getD i ([], none, 0)).1 := by
    intro i
    rw [List.getD_eq_getElem?_getD, List.getD_eq_getElem?_getD, List.getElem?_map]
    cases l[i]? <;> rfl
  refine ⟨l.map (·.1), a, c, fun i => (l.getD i ([], none, 0)).2.1, fun i => (l.getD i ([], none, 0)).2.2, by rw [List.length_map]; exact h1, by rw [List.length_map]; exact h2, ?_, ?_⟩
  · rw [List.length_map]
    refine h4.congr fun i hi => ?_
    rw [hg]; rfl
  · intro i hi
    rw [List.length_map] at hi
    rw [hg]
    exact h5 _ (by rw [List.getD_eq_getElem?_getD, List.getElem?_eq_getElem hi]; exact List.getElem_mem _)
theorem open_dfa {K : Type} {enc : TypeId × Value → K} {w : World} {base : Nat} {sp : Nat → Bool} {held : Bool} {cs : List Value} (h : As enc Try.prog w base sp held 48 cs) :
    ∃ d : Dfa.D, cs = Dfa.dC (Dfa.clsV d) (.slice d.a d.next.length d.c) (.slice d.ar d.rules.length d.cr) ∧ Dfa.Mem w d := by
  obtain ⟨hl, hf⟩ := as_struct Try.underlying48 h
  rw [show Try.prog.cellsOf 48 = 258 by kernel_rfl] at hl
  have c0 : Try.prog.cellsOf 44 = 256 := by kernel_rfl
  have c1 : Try.prog.cellsOf 45 = 1 := by kernel_rfl
  have c2 : Try.prog.cellsOf 46 = 1 := by kernel_rfl
  obtain ⟨F, e0⟩ := as_ints_arr Try.underlying44 Try.underlying3 (by kernel_rfl) c0 (hf 0 _ rfl)
  obtain ⟨nx, a, c, ra, rc, e1, m1, r1, k1⟩ := open_intss (hf 1 _ rfl)
  obtain ⟨ru, ar, cr, e2, m2, _, r2, _⟩ := open_ints (hf 2 _ rfl)
  refine ⟨⟨F, nx, ru, a, c, ra, rc, ar, cr⟩, ?_, r1, fun i hi => (k1 i hi).2, r2, m1, fun i => ?_, m2⟩
  · simp only [List.getElem_toArray, List.getElem_cons_zero, List.getElem_cons_succ, c0, c1, c2] at e0 e1 e2
    have h3 : cs = cs.take 256 ++ ((cs.drop 256).take 1 ++ (cs.drop 257).take 1) := by
      have h4 : cs.drop 257 = (cs.drop 256).drop 1 := by rw [List.drop_drop]
      have h5 : (cs.drop 257).take 1 = cs.drop 257 := List.take_of_length_le (by rw [List.length_drop]; omega)
      rw [h5, h4, List.take_append_drop, List.take_append_drop]
    rw [h3]
    rw [List.drop_zero] at e0
    rw [e0, e1, e2]; unfold Dfa.dC; rfl
  · by_cases hi : i < nx.length
    · exact (k1 i hi).1
    · have hni : nx.length ≤ i := by omega
      have : Dfa.row ⟨F, nx, ru, a, c, ra, rc, ar, cr⟩ i = [] := by
        unfold Dfa.row
        rw [List.getD_eq_getElem?_getD, List.getElem?_eq_none hni]; rfl
      rw [this]; simp
end Go.Proofs.Ytldidoaagijnhaa
