/- Arguments that are structs and slices, opened. -/
import Derived.Test.YtldidoaagijnhaaRow
import Derived.Test.YtldidoaagijnhaaRead
namespace Go.Proofs.Ytldidoaagijnhaa
set_option linter.unusedSimpArgs false
set_option linter.unusedVariables false
open H
open Go.ChangeShapes Go.WideShapes Go.ChangeAt Go.RowKit
theorem open_struct {K : Type} {enc : TypeId × Value → K} {P : Program} {w : World} {base b0 : Nat} {sp : Nat → Bool} {held : Bool} {r : Reach} {t : TypeId} {fs : Array Field} {v : Value} {d : DataW K} {ps : List MemPlace} (ht : P.underlying t = some (.struct fs))
    (hval : Value.okWide P w r b0 t v) (hd : DataW.Trod enc P w base sp held t v d ps) :
    ∃ (cs : Array Value) (n : Nat), v = .agg cs ∧ cs.toList.length = P.cellsOf t ∧ ∀ (i : Nat) (f : Field), fs[i]? = some f → ∃ y, DataW.trod enc P w base sp held n f.type ((cs.toList.drop f.offset).take (P.cellsOf f.type)) = some y := by
  simp only [Value.okWide, ht] at hval
  obtain ⟨cs, rfl, _⟩ := hval
  obtain ⟨fuel, hf⟩ := hd
  obtain ⟨xs, n, _, _, hl, hlen, h⟩ := DataW.trod_struct ht hf
  refine ⟨cs, n, rfl, hl, fun i f hi => ?_⟩
  have hx : i < xs.length := by rw [hlen]; exact (Array.getElem?_eq_some_iff.1 hi).1
  exact ⟨xs[i], (h i f hi).trans (List.getElem?_eq_getElem hx)⟩

/-- What reads as type e: some cells. -/
def As {K : Type} (enc : TypeId × Value → K) (P : Program) (w : World) (base : Nat) (sp : Nat → Bool) (held : Bool) (e : TypeId) (cs : List Value) : Prop := ∃ n y, DataW.trod enc P w base sp held n e cs = some y
/-- The elements of a slice. -/
theorem open_rows {K : Type} {enc : TypeId × Value → K} {P : Program} {w : World} {base : Nat} {sp : Nat → Bool} {held : Bool} {t e : TypeId} {z : Nat} {cs : List Value} (ht : P.underlying t = some (.slice e)) (hc : P.cellsOf e = z) (hz : 0 < z)
    (hf : As enc P w base sp held t cs) :
    ∃ (css : List (List Value)) (a : Option Addr) (c : Nat), cs = [.slice a css.length c] ∧ css.length ≤ maxLen ∧ css.length ≤ c ∧ (∀ cs ∈ css, cs.length = z ∧ As enc P w base sp held e cs) ∧ Rd w a css.length z (fun i => css.getD i []) := by
  obtain ⟨fuel, x, hf⟩ := hf
  rcases DataW.trod_slice ht hf with ⟨hcs, _⟩ | ⟨a, len, cap, elems, rest, n, _, hcs, _, hb, hl, hm, hlen, hel, _, _⟩
  · exact ⟨[], none, 0, hcs, by simp, Nat.le_refl _, fun s hs => absurd hs (by simp), Rd.nil _ _ _ _⟩
  · rw [hc] at hel
    have hex : ∀ k, k ≤ len → ∃ css : List (List Value), css.length = k ∧ ∀ i, i < k → w.cells? base (a.add (i * z)) z = some (css.getD i []) ∧ As enc P w base sp held e (css.getD i []) := by
      intro k
      induction k with
      | zero => intro _; exact ⟨[], rfl, fun i hi => absurd hi (by omega)⟩
      | succ k ih =>
        intro hk
        obtain ⟨css, h1, h2⟩ := ih (by omega)
        have h3 := hel k (by omega)
        rw [List.getElem?_eq_getElem (by omega), Option.bind_eq_some_iff] at h3
        obtain ⟨cs', h4, h5⟩ := h3
        refine ⟨css ++ [cs'], by simp [h1], fun i hi => ?_⟩
        by_cases hik : i < k
        · have : (css ++ [cs']).getD i [] = css.getD i [] := by simp [List.getD_eq_getElem?_getD, List.getElem?_append_left (show i < css.length by omega)]
          rw [this]; exact h2 i hik
        · obtain rfl : i = k := by omega
          have : (css ++ [cs']).getD i [] = cs' := by simp [List.getD_eq_getElem?_getD, List.getElem?_append_right (show css.length ≤ i by omega), h1]
          rw [this]; exact ⟨h4, n, _, h5⟩
    obtain ⟨css, h1, h2⟩ := hex len (Nat.le_refl _)
    have hlz : ∀ i, i < len → (css.getD i []).length = z := fun i hi => (World.cells?_some (h2 i hi).1).2.1
    refine ⟨css, some a, cap, by rw [h1]; exact hcs, by rw [h1]; omega, by rw [h1]; omega, fun s hs => ?_, ?_⟩
    · obtain ⟨i, hi⟩ := List.getElem?_of_mem hs
      have hi' : i < len := by rw [← h1]; exact (List.getElem?_eq_some_iff.1 hi).1
      have hg : css.getD i [] = s := by simp [List.getD_eq_getElem?_getD, hi]
      rw [← hg]; exact ⟨hlz i hi', (h2 i hi').2⟩
    · rw [h1]
      intro hn
      obtain ⟨b, o, s⟩ := a
      have hcell : ∀ i j, i < len → j < z → w.cell? (Addr.add (Addr.add ⟨b, o, s⟩ (i * z)) j) = (css.getD i [])[j]? := fun i j hi hj => (World.cells?_some (h2 i hi).1).2.2 j hj
      have h00 := hcell 0 0 hn hz
      have hl0 := hlz 0 hn
      rw [List.getElem?_eq_getElem (l := css.getD 0 []) (i := 0) (by omega)] at h00
      have hs : s = none := by simpa [Addr.add] using World.cell?_spot h00
      subst hs
      refine ⟨b, o, rfl, by have := cell_lt h00; simpa [Addr.add] using this, fun i hi => ⟨hlz i hi, fun j hj => ?_⟩⟩
      have := hcell i j hi hj
      rwa [add_at, add_at] at this
/-- Elements that are things of a kind. -/
theorem things {α : Type} {cf : α → List Value} {ok : α → Prop} : ∀ (css : List (List Value)), (∀ cs ∈ css, ∃ x, cs = cf x ∧ ok x) → ∃ l : List α, css = l.map cf ∧ ∀ x ∈ l, ok x
  | [], _ => ⟨[], rfl, fun x hx => absurd hx (by simp)⟩
  | cs :: css, h => by
    obtain ⟨x, hx, ho⟩ := h cs (by simp)
    obtain ⟨l, hl, hol⟩ := things css fun c hc => h c (by simp [hc])
    refine ⟨x :: l, by rw [hx, hl]; rfl, fun y hy => ?_⟩
    rcases List.mem_cons.1 hy with rfl | hm
    · exact ho
    · exact hol y hm
/-- A slice of things of a kind. -/
theorem open_things {α : Type} {cf : α → List Value} {ok : α → Prop} (d : α) {K : Type} {enc : TypeId × Value → K} {P : Program} {w : World} {base : Nat} {sp : Nat → Bool} {held : Bool} {t e : TypeId} {z : Nat} {cs : List Value} (ht : P.underlying t = some (.slice e)) (hc : P.cellsOf e = z) (hz : 0 < z)
    (hf : As enc P w base sp held t cs) (hk : ∀ c, c.length = z → As enc P w base sp held e c → ∃ x, c = cf x ∧ ok x) :
    ∃ (l : List α) (a : Option Addr) (c : Nat), cs = [.slice a l.length c] ∧ l.length ≤ maxLen ∧ l.length ≤ c ∧ Rd w a l.length z (ofL cf d l) ∧ ∀ x ∈ l, ok x := by
  obtain ⟨css, a, c, h1, h2, h3, h4, h5⟩ := open_rows ht hc hz hf
  obtain ⟨l, rfl, hl⟩ := things css fun cs hcs => hk cs (h4 cs hcs).1 (h4 cs hcs).2
  rw [List.length_map] at h1 h2 h3 h5
  refine ⟨l, a, c, h1, h2, h3, h5.congr fun i hi => ?_, hl⟩
  simp [ofL, List.getD_eq_getElem?_getD, List.getElem?_map, List.getElem?_eq_getElem hi]
theorem as_string {K : Type} {enc : TypeId × Value → K} {P : Program} {w : World} {base : Nat} {sp : Nat → Bool} {held : Bool} {e : TypeId} {cs : List Value} (he : P.underlying e = some .string) (h : As enc P w base sp held e cs) : ∃ x : List UInt8, cs = [str x] ∧ x.length ≤ maxLen := by
  obtain ⟨n, y, h⟩ := h
  obtain ⟨s, rfl, _, hs⟩ := DataW.trod_string he h
  exact ⟨s.data.toList, by rw [string_str], by rw [show s.data.toList.length = s.size from Array.length_toList]; exact hs⟩
theorem as_int {K : Type} {enc : TypeId × Value → K} {P : Program} {w : World} {base : Nat} {sp : Nat → Bool} {held : Bool} {e : TypeId} {k : IntKind} {cs : List Value} (he : P.underlying e = some (.int k)) (h : As enc P w base sp held e cs) : ∃ x : Int, cs = [.int k x] ∧ (Lit.int k x).wf = true := by
  obtain ⟨n, y, h⟩ := h
  obtain ⟨s, rfl, _, hs⟩ := DataW.trod_int he h
  exact ⟨s, rfl, hs⟩
theorem as_i64 {K : Type} {enc : TypeId × Value → K} {P : Program} {w : World} {base : Nat} {sp : Nat → Bool} {held : Bool} {e : TypeId} {cs : List Value} (he : P.underlying e = some (.int .i64)) (h : As enc P w base sp held e cs) : ∃ x : Int, cs = [.int .i64 x] ∧ (-9223372036854775808 ≤ x ∧ x ≤ 9223372036854775807) := by
  obtain ⟨x, h1, h2⟩ := as_int he h
  exact ⟨x, h1, int_i64 h2⟩
theorem as_u8 {K : Type} {enc : TypeId × Value → K} {P : Program} {w : World} {base : Nat} {sp : Nat → Bool} {held : Bool} {e : TypeId} {cs : List Value} (he : P.underlying e = some (.int .u8)) (h : As enc P w base sp held e cs) : ∃ x : UInt8, cs = [byte x] ∧ True := by
  obtain ⟨x, h1, h2⟩ := as_int he h
  obtain ⟨c, e⟩ := int_u8 h2
  exact ⟨c, by rw [h1, e], trivial⟩
theorem as_bool {K : Type} {enc : TypeId × Value → K} {P : Program} {w : World} {base : Nat} {sp : Nat → Bool} {held : Bool} {e : TypeId} {cs : List Value} (he : P.underlying e = some .bool) (h : As enc P w base sp held e cs) : ∃ x : Bool, cs = [.bool x] ∧ True := by
  obtain ⟨n, y, h⟩ := h
  obtain ⟨s, rfl, _⟩ := DataW.trod_bool he h
  exact ⟨s, rfl, trivial⟩
/-- A struct's fields, each by itself. -/
theorem as_struct {K : Type} {enc : TypeId × Value → K} {P : Program} {w : World} {base : Nat} {sp : Nat → Bool} {held : Bool} {t : TypeId} {fs : Array Field} {cs : List Value} (ht : P.underlying t = some (.struct fs)) (h : As enc P w base sp held t cs) :
    cs.length = P.cellsOf t ∧ ∀ (i : Nat) (f : Field), fs[i]? = some f → As enc P w base sp held f.type ((cs.drop f.offset).take (P.cellsOf f.type)) := by
  obtain ⟨fuel, x, hf⟩ := h
  obtain ⟨xs, n, _, _, hl, hlen, h⟩ := DataW.trod_struct ht hf
  refine ⟨hl, fun i f hi => ?_⟩
  have hx : i < xs.length := by rw [hlen]; exact (Array.getElem?_eq_some_iff.1 hi).1
  exact ⟨n, xs[i], (h i f hi).trans (List.getElem?_eq_getElem hx)⟩
/-- A parameter that is a slice. -/
theorem as_slice {K : Type} {enc : TypeId × Value → K} {P : Program} {w : World} {base b0 : Nat} {sp : Nat → Bool} {held : Bool} {r : Reach} {t e : TypeId} {v : Value} {d : DataW K} {ps : List MemPlace} (ht : P.underlying t = some (.slice e))
    (hval : Value.okWide P w r b0 t v) (hd : DataW.Trod enc P w base sp held t v d ps) : As enc P w base sp held t [v] := by
  obtain ⟨a0, len0, cap0, rfl⟩ := okWide_slice ht hval
  obtain ⟨fuel, hf⟩ := hd
  exact ⟨fuel, _, hf⟩
/-- A parameter that is a struct. -/
theorem as_agg {K : Type} {enc : TypeId × Value → K} {P : Program} {w : World} {base b0 : Nat} {sp : Nat → Bool} {held : Bool} {r : Reach} {t : TypeId} {fs : Array Field} {v : Value} {d : DataW K} {ps : List MemPlace} (ht : P.underlying t = some (.struct fs))
    (hval : Value.okWide P w r b0 t v) (hd : DataW.Trod enc P w base sp held t v d ps) : ∃ cs : List Value, v = .agg cs.toArray ∧ As enc P w base sp held t cs := by
  simp only [Value.okWide, ht] at hval
  obtain ⟨cs, rfl, _⟩ := hval
  obtain ⟨fuel, hf⟩ := hd
  exact ⟨cs.toList, by simp, fuel, _, hf⟩
end Go.Proofs.Ytldidoaagijnhaa
