/- Arguments that are structs, opened. -/
import Derived.Test.YtmbenaehnmdbgaaRow
namespace Go.Proofs.Ytmbenaehnmdbgaa
set_option linter.unusedSimpArgs false
set_option linter.unusedVariables false
open H
open Go.ChangeShapes Go.WideShapes Go.ChangeAt Go.RowKit
theorem open_struct {K : Type} {enc : TypeId × Value → K} {P : Program} {w : World} {base b0 : Nat} {sp : Nat → Bool} {held : Bool} {r : Reach} {t : TypeId} {fs : Array Field} {v : Value} {d : DataW K} {ps : List MemPlace} (ht : P.underlying t = some (.struct fs))
    (hval : Value.okWide P w r b0 t v) (hd : DataW.Trod enc P w base sp held t v d ps) :
    ∃ (cs : Array Value) (n : Nat), v = .agg cs ∧ cs.toList.length = P.cellsOf t ∧ ∀ (i : Nat) (f : Field), fs[i]? = some f → ∃ y, DataW.trod enc P w base sp held n f.type ((cs.toList.drop f.offset).take (P.cellsOf f.type)) = some y := by
  simp only [Value.okWide, ht] at hval
  obtain ⟨cs, rfl, _⟩ := hval
  obtain ⟨fuel, hf⟩ := hd
  obtain ⟨xs, n, _, _, hl, hlen, h⟩ := DataW.trod_struct ht hf
  refine ⟨cs, n, rfl, hl, fun i f hi => ?_⟩
  have hx : i < xs.length := by rw [hlen]; exact (Array.getElem?_eq_some_iff.1 hi).1
  exact ⟨xs[i], (h i f hi).trans (List.getElem?_eq_getElem hx)⟩
end Go.Proofs.Ytmbenaehnmdbgaa
