/- Automata, as plain data and as cells of memory. -/
import Derived.Test.YtldidoaagijnhaaArr
import Derived.Test.YtldidoaagijnhaaRead
namespace Go.Proofs.Ytldidoaagijnhaa
set_option linter.unusedSimpArgs false
set_option linter.unusedVariables false
namespace Dfa
open H
/-- An automaton, and where its rows lie. -/
structure D where
  cls : Nat → Int
  next : List (List Int)
  rules : List Int
  a : Option Addr
  c : Nat
  ra : Nat → Option Addr
  rc : Nat → Nat
  ar : Option Addr
  cr : Nat
def ints (l : List Int) : Nat → List Value := ofL (fun x => [.int .i64 x]) 0 l
def row (d : D) (i : Nat) : List Int := d.next.getD i []
def dC (F : Nat → Value) (x y : Value) : List Value := vals 256 F ++ [x, y]
abbrev clsV (d : D) : Nat → Value := intsV d.cls .i64
def D.val (d : D) : Value := .agg (List.toArray (dC (clsV d) (.slice d.a d.next.length d.c) (.slice d.ar d.rules.length d.cr)))
structure Mem (w : World) (d : D) : Prop where
  next : Rd w d.a d.next.length 1 (fun i => [.slice (d.ra i) (row d i).length (d.rc i)])
  rows : ∀ i, i < d.next.length → Rd w (d.ra i) (row d i).length 1 (ints (row d i))
  rules : Rd w d.ar d.rules.length 1 (ints d.rules)
  nlen : d.next.length ≤ maxLen
  rlen : ∀ i, (row d i).length ≤ maxLen
  ulen : d.rules.length ≤ maxLen
theorem Mem.keep {w w' : World} {d : D} (h : Mem w d) (hx : Ext [] w w') : Mem w' d :=
  ⟨h.next.keep hx, fun i hi => (h.rows i hi).keep hx, h.rules.keep hx, h.nlen, h.rlen, h.ulen⟩
theorem dC_len (F : Nat → Value) (x y : Value) : (dC F x y).length = 258 := by simp [dC, vals_len]
theorem dC_lt (F : Nat → Value) (x y : Value) (i : Nat) (h : i < 256) : (dC F x y)[i]? = some (F i) := by
  unfold dC; rw [List.getElem?_append_left (by rw [vals_len]; exact h), vals_get _ _ _ h]
theorem dC_256 (F : Nat → Value) (x y : Value) : (dC F x y)[256]? = some x := by
  unfold dC; rw [List.getElem?_append_right (by rw [vals_len]; exact Nat.le_refl _), vals_len]; rfl
theorem dC_257 (F : Nat → Value) (x y : Value) : (dC F x y)[257]? = some y := by
  unfold dC; rw [List.getElem?_append_right (by rw [vals_len]; omega), vals_len]; rfl
theorem dC_all (F : Nat → Value) (x y : Value) : (List.toArray (dC F x y)).extract 0 258 = List.toArray (dC F x y) := by
  apply Array.ext'
  simp only [List.extract_toArray, List.extract_eq_take_drop, List.drop_zero, Nat.sub_zero]
  rw [List.take_of_length_le (by rw [dC_len]; exact Nat.le_refl _)]
theorem dC_cls (F : Nat → Value) (x y : Value) : (List.toArray (dC F x y)).extract 0 256 = List.toArray (vals 256 F) := by
  apply Array.ext'
  simp only [List.extract_toArray, List.extract_eq_take_drop, List.drop_zero, Nat.sub_zero]
  unfold dC
  rw [List.take_left' (vals_len _ _)]
theorem dC_set256 (F : Nat → Value) (x y v : Value) : (dC F x y).set 256 v = dC F v y := by
  unfold dC; rw [List.set_append_right _ _ (by rw [vals_len]; exact Nat.le_refl _), vals_len]; rfl
theorem dC_set257 (F : Nat → Value) (x y v : Value) : (dC F x y).set 257 v = dC F x v := by
  unfold dC; rw [List.set_append_right _ _ (by rw [vals_len]; omega), vals_len]; rfl
theorem hsetN_dC (g : Nat) (t : TypeId) (F F' : Nat → Int) (a a' b b' a2 a2' b2 b2' : Option Addr) (n c n' c' m k m' k' : Nat) (h : List Res) : hsetN ⟨g, 0, none⟩ (dC (intsV F .i64) (.slice a n c) (.slice b m k)) 0 (.cells g t (List.toArray (dC (intsV F' .i64) (.slice a' n' c') (.slice b' m' k'))) :: h) = some (.cells g t (List.toArray (dC (intsV F .i64) (.slice a n c) (.slice b m k))) :: h) := by
  rw [hsetN_all]
  · simp
  · intro v hv
    unfold dC at hv
    rcases List.mem_append.1 hv with h1 | h1
    · obtain ⟨i, _, rfl⟩ := vals_mem _ _ _ h1
      rfl
    · simp only [List.mem_cons, List.not_mem_nil, or_false] at h1
      rcases h1 with rfl | rfl <;> rfl
  · rw [dC_len]; simp [dC_len]
theorem zero_eq : (Value.agg (Array.replicate 256 (.int .i64 0) ++ #[.slice none 0 0, .slice none 0 0])) = .agg (List.toArray (dC (intsV (fun _ => 0) .i64) (.slice none 0 0) (.slice none 0 0))) := by
  unfold dC
  rw [vals_replicate]
  simp; rfl
attribute [irreducible] dC
/-- The elements of Next, and of a row, and of Rules. -/
theorem next_at {w : World} {d : D} (h : Mem w d) (i : Nat) (hi : i < d.next.length) : ∃ b o, d.a = some ⟨b, o, none⟩ ∧ b < w.heap.size ∧ w.cell? ⟨b, o + i, none⟩ = some (.slice (d.ra i) (row d i).length (d.rc i)) := by
  obtain ⟨b, o, e, hb, _, hj⟩ := h.next.at_ i hi
  refine ⟨b, o, e, hb, ?_⟩
  have := hj 0 (by omega); rwa [Nat.mul_one, Nat.add_zero] at this
theorem ints_at {w : World} {a : Option Addr} {l : List Int} (h : Rd w a l.length 1 (ints l)) (i : Nat) (hi : i < l.length) : ∃ b o, a = some ⟨b, o, none⟩ ∧ b < w.heap.size ∧ w.cell? ⟨b, o + i, none⟩ = some (.int .i64 (l.getD i 0)) := by
  obtain ⟨b, o, e, hb, _, hj⟩ := h.at_ i hi
  refine ⟨b, o, e, hb, ?_⟩
  have := hj 0 (by omega); rwa [Nat.mul_one, Nat.add_zero] at this

/-- How many classes: below 0 where they are not numbered as they must be. -/
def clsGo (F : Nat → Int) : Nat → Nat → Int → Int
  | 0, _, n => n
  | k + 1, i, n => if F i < 0 ∨ n < F i then -1 else if F i = n then clsGo F k (i + 1) (n + 1) else clsGo F k (i + 1) n
def classes (d : D) : Int := clsGo d.cls 256 0 0
theorem clsGo_ok (F : Nat → Int) : ∀ (k i : Nat) (n : Int), 0 ≤ n → 0 ≤ clsGo F k i n → n ≤ clsGo F k i n ∧ clsGo F k i n ≤ n + k ∧ ∀ j, i ≤ j → j < i + k → 0 ≤ F j ∧ F j < max (clsGo F k i n) 1
  | 0, i, n, h0, _ => by simp [clsGo]; intro j h1 h2; omega
  | k + 1, i, n, h0, h => by
    simp only [clsGo] at h ⊢
    split at h
    · omega
    · rename_i h1
      rw [if_neg h1]
      split at h
      · rename_i h2
        rw [if_pos h2]
        obtain ⟨k1, k2, k3⟩ := clsGo_ok F k (i + 1) (n + 1) (by omega) h
        refine ⟨by omega, by omega, fun j hj1 hj2 => ?_⟩
        by_cases hji : j = i
        · subst hji; omega
        · exact k3 j (by omega) (by omega)
      · rename_i h2
        rw [if_neg h2]
        obtain ⟨k1, k2, k3⟩ := clsGo_ok F k (i + 1) n h0 h
        refine ⟨by omega, by omega, fun j hj1 hj2 => ?_⟩
        by_cases hji : j = i
        · subst hji; omega
        · exact k3 j (by omega) (by omega)
theorem classes_ok (d : D) (h : 0 ≤ classes d) : 1 ≤ classes d ∧ classes d ≤ 256 ∧ ∀ j, j < 256 → 0 ≤ d.cls j ∧ d.cls j < classes d := by
  have h0 : 1 ≤ classes d := by
    unfold classes at h ⊢
    rw [clsGo] at h ⊢
    split at h
    · omega
    · rename_i h1
      rw [if_neg h1]
      split at h
      · rename_i h2
        rw [if_pos h2]
        have := (clsGo_ok d.cls 255 1 1 (by omega) h).1
        exact this
      · omega
  obtain ⟨k1, k2, k3⟩ := clsGo_ok d.cls 256 0 0 (by omega) h
  have e : clsGo d.cls 256 0 0 = classes d := rfl
  rw [e] at k2 k3
  exact ⟨h0, by omega, fun j hj => by have := k3 j (by omega) (by omega); omega⟩
def RowOk (d : D) (i : Nat) : Prop := -1 ≤ d.rules.getD i 0 ∧ d.rules.getD i 0 < 32 ∧ ((row d i).length : Int) = classes d ∧ ∀ j, j < (row d i).length → 0 ≤ (row d i).getD j 0 ∧ (row d i).getD j 0 < d.next.length
def Right (d : D) : Prop := 1 ≤ d.next.length ∧ d.next.length ≤ 1000 ∧ d.rules.length = d.next.length ∧ 0 ≤ classes d ∧ ∀ i, i < d.next.length → RowOk d i
instance (d : D) (i : Nat) : Decidable (RowOk d i) := by unfold RowOk; infer_instance
instance (d : D) : Decidable (Right d) := by unfold Right; infer_instance
/-- The state behind a byte. -/
def step (d : D) (s : Int) (b : UInt8) : Int := (row d s.toNat).getD (d.cls b.toNat).toNat 0
def runFrom (d : D) (s : Int) (t : List UInt8) : Int := t.foldl (step d) s
def run (d : D) (t : List UInt8) : Int := if Right d then runFrom d 0 t else -1
def after (d : D) (t : List UInt8) : Int := if Right d then d.rules.getD (run d t).toNat 0 else -1
def step1 (d : D) (s : Int) (b : UInt8) : Int := if ¬ Right d ∨ s < 0 ∨ (d.next.length : Int) ≤ s then -1 else step d s b
theorem step_ok {d : D} (h : Right d) {s : Int} (h0 : 0 ≤ s) (h1 : s < d.next.length) (b : UInt8) : (d.cls b.toNat).toNat < (row d s.toNat).length ∧ 0 ≤ d.cls b.toNat ∧ 0 ≤ step d s b ∧ step d s b < d.next.length := by
  obtain ⟨_, _, _, hk, hr⟩ := h
  have hrow := hr s.toNat (by omega)
  have hc := (classes_ok d hk).2.2 b.toNat b.toNat_lt
  have hlt : (d.cls b.toNat).toNat < (row d s.toNat).length := by have := hrow.2.2.1; omega
  have := hrow.2.2.2 _ hlt
  exact ⟨hlt, hc.1, this.1, this.2⟩
theorem runFrom_ok {d : D} (h : Right d) : ∀ (t : List UInt8) (s : Int), 0 ≤ s → s < d.next.length → 0 ≤ runFrom d s t ∧ runFrom d s t < d.next.length
  | [], s, h0, h1 => ⟨h0, h1⟩
  | b :: t, s, h0, h1 => by
    have := step_ok h h0 h1 b
    exact runFrom_ok h t _ this.2.2.1 this.2.2.2
theorem run_ok {d : D} (h : Right d) (t : List UInt8) : run d t = runFrom d 0 t ∧ 0 ≤ run d t ∧ run d t < d.next.length := by
  have e : run d t = runFrom d 0 t := by unfold run; rw [if_pos h]
  have := runFrom_ok h t 0 (by omega) (by have := h.1; omega)
  rw [e]; exact ⟨rfl, this⟩
theorem runFrom_append (d : D) (s : Int) (t u : List UInt8) : runFrom d s (t ++ u) = runFrom d (runFrom d s t) u := by unfold runFrom; rw [List.foldl_append]
theorem runFrom_take {d : D} {s : Int} {t : List UInt8} {i : Nat} (h : i < t.length) : runFrom d s (t.take (i + 1)) = step d (runFrom d s (t.take i)) (t.getD i 0) := by
  rw [List.take_add_one, List.getElem?_eq_getElem h, Option.toList_some, runFrom_append, List.getD_eq_getElem?_getD, List.getElem?_eq_getElem h]; rfl
/-- Two that are alike. -/
def sameB (d e : D) : Bool := alike 256 d.cls e.cls && (decide (d.next = e.next) && decide (d.rules = e.rules))
theorem next_ext {d e : D} (hl : d.next.length = e.next.length) (h : ∀ i, i < d.next.length → row d i = row e i) : d.next = e.next := by
  apply List.ext_getElem hl
  intro i h1 h2
  have := h i h1
  unfold row at this
  rwa [List.getD_eq_getElem?_getD, List.getD_eq_getElem?_getD, List.getElem?_eq_getElem h1, List.getElem?_eq_getElem h2] at this
theorem take_succ {α : Type} (l : List α) (x : α) (i : Nat) (h : i < l.length) : l.take (i + 1) = l.take i ++ [l.getD i x] := by
  rw [List.take_add_one, List.getD_eq_getElem?_getD, List.getElem?_eq_getElem h]; rfl
end Dfa
end Go.Proofs.Ytldidoaagijnhaa
