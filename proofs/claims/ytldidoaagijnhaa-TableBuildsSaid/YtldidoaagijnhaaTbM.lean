/- Tables of automata, as plain functions. Tables, in plain Lean: a row's text tells the row. -/
import Derived.Test.YtldidoaagijnhaaVintP
import Derived.Test.YtldidoaagijnhaaCrcM
import Derived.Test.YtldidoaagijnhaaDfaMY4
namespace Go.Proofs.Ytldidoaagijnhaa
set_option linter.unusedSimpArgs false
set_option linter.unusedVariables false
namespace Tb
open H
def In64 (x : Int) : Prop := -9223372036854775808 ≤ x ∧ x ≤ 9223372036854775807
def putS (l : List Int) : List UInt8 := l.flatMap fun n => (Vint.put n).1
theorem put_nn {n : Int} (h : 0 ≤ n) : (Vint.put n).1 = Vint.putL n.toNat := by unfold Vint.put; rw [if_neg (by omega)]
theorem put_len {n : Int} (h : n ≤ 9223372036854775807) : (Vint.put n).1.length ≤ 9 := by
  unfold Vint.put
  split
  · simp
  · exact Vint.putL_len9 _ (by omega)
theorem putS_cons (n : Int) (l : List Int) : putS (n :: l) = (Vint.put n).1 ++ putS l := by simp [putS]
theorem putS_nil : putS [] = [] := rfl
theorem putS_append (l m : List Int) : putS (l ++ m) = putS l ++ putS m := by simp [putS]
theorem putS_snoc (n : Int) (l : List Int) : putS (l ++ [n]) = putS l ++ (Vint.put n).1 := by simp [putS]
theorem putS_len (l : List Int) (h : ∀ n ∈ l, n ≤ 9223372036854775807) : (putS l).length ≤ 9 * l.length := by
  induction l with
  | nil => simp [putS]
  | cons n l ih =>
    have := put_len (h n (by simp))
    have := ih fun m hm => h m (by simp [hm])
    rw [putS_cons, List.length_append, List.length_cons]; omega
/-- The place of a row among others; their number where it is not. -/
def idx (rows : List (List Int)) (r : List Int) : Nat := rows.findIdx fun x => decide (x = r)
/-- One row more: the different rows, and each one's number. -/
def addRow (acc : List (List Int) × List Int) (r : List Int) : List (List Int) × List Int :=
  if idx acc.1 r = acc.1.length then (acc.1 ++ [r], acc.2 ++ [(acc.1.length : Int)]) else (acc.1, acc.2 ++ [(idx acc.1 r : Int)])
def rowsW (next : List (List Int)) : List (List Int) × List Int := next.foldl addRow ([], [])
theorem rowsW_snoc (l : List (List Int)) (r : List Int) : rowsW (l ++ [r]) = addRow (rowsW l) r := by simp [rowsW]
theorem idx_le (rows : List (List Int)) (r : List Int) : idx rows r ≤ rows.length := List.findIdx_le_length
theorem idx_at {rows : List (List Int)} {r : List Int} (h : idx rows r < rows.length) : rows.getD (idx rows r) [] = r := by
  have := List.findIdx_getElem (xs := rows) (p := fun x => decide (x = r)) (w := h)
  rw [List.getD_eq_getElem?_getD, List.getElem?_eq_getElem h]
  exact of_decide_eq_true this
theorem idx_first {rows : List (List Int)} {r : List Int} {i : Nat} (h : i < rows.length) (he : rows.getD i [] = r) (hf : ∀ j, j < i → rows.getD j [] ≠ r) : idx rows r = i := by
  unfold idx
  rw [List.findIdx_eq h]
  refine ⟨?_, fun j hj => ?_⟩
  · rw [List.getD_eq_getElem?_getD, List.getElem?_eq_getElem h] at he
    exact decide_eq_true he
  · have := hf j hj
    rw [List.getD_eq_getElem?_getD, List.getElem?_eq_getElem (by omega)] at this
    exact decide_eq_false this
theorem idx_none {rows : List (List Int)} {r : List Int} (hf : ∀ j, j < rows.length → rows.getD j [] ≠ r) : idx rows r = rows.length := by
  unfold idx
  refine List.findIdx_eq_length_of_false fun x hx => ?_
  obtain ⟨j, hj, rfl⟩ := List.getElem_of_mem hx
  have := hf j hj
  rw [List.getD_eq_getElem?_getD, List.getElem?_eq_getElem hj] at this
  exact decide_eq_false this
/-- What the rows and the numbers are of. -/
structure RowsOf (next rows : List (List Int)) (which : List Int) : Prop where
  len : which.length = next.length
  le : rows.length ≤ next.length
  mem : ∀ r ∈ rows, r ∈ next
  at_ : ∀ i, i < next.length → 0 ≤ which.getD i 0 ∧ which.getD i 0 < rows.length ∧ rows.getD (which.getD i 0).toNat [] = next.getD i []
theorem rowsOf : ∀ l : List (List Int), RowsOf l (rowsW l).1 (rowsW l).2 := by
  intro l
  induction hn : l.length generalizing l with
  | zero =>
    obtain rfl := List.eq_nil_of_length_eq_zero hn
    exact ⟨rfl, Nat.le_refl _, by simp [rowsW], fun i hi => absurd hi (by simp)⟩
  | succ n ih =>
    obtain ⟨l', r, rfl⟩ : ∃ l' r, l = l' ++ [r] := ⟨l.dropLast, l.getLast (by intro h; simp [h] at hn), (List.dropLast_concat_getLast _).symm⟩
    have hl' : l'.length = n := by simpa using hn
    obtain ⟨h1, h2, h3, h4⟩ := ih l' hl'
    rw [rowsW_snoc]
    generalize rowsW l' = acc at *
    obtain ⟨rows, which⟩ := acc
    simp only [] at h1 h2 h3 h4
    have hge : ∀ (x : List (List Int)) (y : List Int) (i : Nat), i < x.length → (x ++ [y]).getD i [] = x.getD i [] := fun x y i hi => by
      rw [List.getD_eq_getElem?_getD, List.getD_eq_getElem?_getD, List.getElem?_append_left hi]
    have hgw : ∀ (x : List Int) (y : Int) (i : Nat), i < x.length → (x ++ [y]).getD i 0 = x.getD i 0 := fun x y i hi => by
      rw [List.getD_eq_getElem?_getD, List.getD_eq_getElem?_getD, List.getElem?_append_left hi]
    have hlw : ∀ (x : List Int) (y : Int), (x ++ [y]).getD x.length 0 = y := fun x y => by
      rw [List.getD_eq_getElem?_getD, List.getElem?_append_right (Nat.le_refl _)]; simp
    have hlr : ∀ (x : List (List Int)) (y : List Int), (x ++ [y]).getD x.length [] = y := fun x y => by
      rw [List.getD_eq_getElem?_getD, List.getElem?_append_right (Nat.le_refl _)]; simp
    unfold addRow
    by_cases hi : idx rows r = rows.length
    · rw [if_pos hi]
      refine ⟨by simp [h1], by simp; omega, fun x hx => ?_, fun i hil => ?_⟩
      · simp only [List.mem_append, List.mem_singleton] at hx ⊢
        rcases hx with hx | hx
        · exact .inl (h3 x hx)
        · exact .inr hx
      · simp only []
        rw [List.length_append, List.length_singleton] at hil
        rcases Nat.lt_succ_iff_lt_or_eq.1 hil with h | rfl
        · obtain ⟨k1, k2, k3⟩ := h4 i h
          rw [hgw which _ i (by omega), hge l' r i h]
          refine ⟨k1, by rw [List.length_append]; omega, ?_⟩
          rw [hge rows r _ (by omega)]; exact k3
        · rw [← h1, hlw, h1, hlr]
          refine ⟨by omega, by rw [List.length_append, List.length_singleton]; omega, ?_⟩
          rw [Int.toNat_natCast, hlr]
    · rw [if_neg hi]
      have hlt : idx rows r < rows.length := by have := idx_le rows r; omega
      refine ⟨by simp [h1], by simp; omega, fun x hx => by simp [h3 x hx], fun i hil => ?_⟩
      simp only []
      rw [List.length_append, List.length_singleton] at hil
      rcases Nat.lt_succ_iff_lt_or_eq.1 hil with h | rfl
      · obtain ⟨k1, k2, k3⟩ := h4 i h
        rw [hgw which _ i (by omega), hge l' r i h]
        exact ⟨k1, k2, k3⟩
      · rw [← h1, hlw, h1, hlr]
        refine ⟨by omega, by omega, ?_⟩
        rw [Int.toNat_natCast]; exact idx_at hlt
/-- The runs of the classes from a place on. -/
def runsGo (F : Nat → Int) : Nat → Nat → Nat → List UInt8
  | 0, _, _ => []
  | k + 1, c, from_ => if c = 256 ∨ F c ≠ F from_ then putS [F from_, ((c - from_ : Nat) : Int)] ++ runsGo F k (c + 1) c else runsGo F k (c + 1) from_
def runs (F : Nat → Int) : List UInt8 := runsGo F 257 0 0
def sumB (s : List UInt8) : List UInt8 := Vint.fixL 4 (Crc.of s).toNat
theorem sumB_len (s : List UInt8) : (sumB s).length = 4 := Vint.fixL_len _ _
def ends (which rules : List Int) : List UInt8 := (which.zip rules).flatMap fun x => putS [x.1, x.2 + 1]
def bytes (F : Nat → Int) (next : List (List Int)) (rules : List Int) : List UInt8 :=
  [83, 67, 65, 78] ++ putS [(next.length : Int), ((next.getD 0 []).length : Int)] ++ runs F ++ putS [((rowsW next).1.length : Int)] ++ (rowsW next).1.flatMap putS ++ ends (rowsW next).2 rules
def build (d : Dfa.D) : List UInt8 × Int := if Dfa.Right d then (bytes d.cls d.next d.rules ++ sumB (bytes d.cls d.next d.rules), 0) else ([], 4)
end Tb
namespace Tb
open Vint (putL)
theorem putL_cut {m1 m2 : Nat} {r1 r2 : List UInt8} (h1 : m1 < 9223372036854775808) (h2 : m2 < 9223372036854775808) (h : putL m1 ++ r1 = putL m2 ++ r2) : m1 = m2 ∧ r1 = r2 := by
  have e1 := Vint.get_back [] r1 m1 h1
  have e2 := Vint.get_back [] r2 m2 h2
  rw [List.nil_append] at e1 e2
  rw [h, e2] at e1
  have := (Prod.mk.inj e1).1
  obtain rfl : m1 = m2 := by omega
  exact ⟨rfl, List.append_cancel_left h⟩
/-- Numbers that are laid down as they are. -/
def Plain (l : List Int) : Prop := ∀ n ∈ l, 0 ≤ n ∧ n ≤ 9223372036854775807
theorem putS_inj : ∀ (l m : List Int), Plain l → Plain m → putS l = putS m → l = m
  | [], [], _, _, _ => rfl
  | [], y :: m, _, hm, h => by
    have hy := hm y (by simp)
    rw [putS_nil, putS_cons, put_nn hy.1] at h
    have := congrArg List.length h
    have hp := Vint.putL_pos y.toNat
    rw [List.length_nil, List.length_append] at this
    omega
  | x :: l, [], hl, _, h => by
    have hx := hl x (by simp)
    rw [putS_nil, putS_cons, put_nn hx.1] at h
    have := congrArg List.length h
    have hp := Vint.putL_pos x.toNat
    rw [List.length_nil, List.length_append] at this
    omega
  | x :: l, y :: m, hl, hm, h => by
    have hx := hl x (by simp)
    have hy := hm y (by simp)
    rw [putS_cons, putS_cons, put_nn hx.1, put_nn hy.1] at h
    obtain ⟨h1, h2⟩ := putL_cut (by omega) (by omega) h
    rw [putS_inj l m (fun n hn => hl n (by simp [hn])) (fun n hn => hm n (by simp [hn])) h2, show x = y by omega]
/-- Which text is which row's. -/
def look (rows : List (List Int)) (s : List UInt8) : Option Int :=
  if rows.findIdx (fun x => decide (putS x = s)) < rows.length then some ((rows.findIdx (fun x => decide (putS x = s)) : Nat) : Int) else none
theorem look_nil (s : List UInt8) : look [] s = none := by simp [look]
theorem findIdx_congr {α : Type} {p q : α → Bool} : ∀ {l : List α}, (∀ x ∈ l, p x = q x) → l.findIdx p = l.findIdx q
  | [], _ => rfl
  | x :: l, h => by
    rw [List.findIdx_cons, List.findIdx_cons, h x (by simp), findIdx_congr fun y hy => h y (by simp [hy])]
theorem look_row {rows : List (List Int)} {r : List Int} (hr : Plain r) (h : ∀ x ∈ rows, Plain x) : look rows (putS r) = if idx rows r = rows.length then none else some (idx rows r : Int) := by
  have e : rows.findIdx (fun x => decide (putS x = putS r)) = idx rows r := findIdx_congr fun x hx => by
    rw [decide_eq_decide]
    exact ⟨putS_inj x r (h x hx) hr, fun he => by rw [he]⟩
  have := idx_le rows r
  unfold look
  rw [e]
  by_cases hi : idx rows r = rows.length
  · rw [if_pos hi, if_neg (by omega)]
  · rw [if_neg hi, if_pos (by omega)]
theorem look_snoc {rows : List (List Int)} {r : List Int} (h : look rows (putS r) = none) : look (rows ++ [r]) = fun y => if y = putS r then some (rows.length : Int) else look rows y := by
  funext y
  have hle : ∀ z : List UInt8, rows.findIdx (fun x => decide (putS x = z)) ≤ rows.length := fun z => List.findIdx_le_length
  unfold look at h ⊢
  have ha : (rows ++ [r]).findIdx (fun x => decide (putS x = y)) = if rows.findIdx (fun x => decide (putS x = y)) < rows.length then rows.findIdx (fun x => decide (putS x = y)) else (if putS r = y then rows.length else rows.length + 1) := by
    rw [List.findIdx_append]
    by_cases hl : rows.findIdx (fun x => decide (putS x = y)) < rows.length
    · rw [if_pos hl, if_pos hl]
    · rw [if_neg hl, if_neg hl, List.findIdx_cons]
      by_cases hy : putS r = y
      · simp [hy]
      · simp [hy]; omega
  have hl2 : (rows ++ [r]).length = rows.length + 1 := by simp
  rw [ha, hl2]
  by_cases hy : y = putS r
  · subst hy
    have hno : ¬ rows.findIdx (fun x => decide (putS x = putS r)) < rows.length := fun hx => by rw [if_pos hx] at h; cases h
    rw [if_neg hno, if_pos rfl, if_pos (by omega), if_pos rfl]
  · rw [if_neg hy]
    by_cases hl : rows.findIdx (fun x => decide (putS x = y)) < rows.length
    · rw [if_pos hl, if_pos (by omega), if_pos hl]
    · have hy' : ¬ putS r = y := fun h => hy h.symm
      rw [if_neg hl, if_neg hy', if_neg (by omega)]
      exact (if_neg hl).symm
/-- The rows of a right automaton are plain. -/
theorem right_plain {d : Dfa.D} (h : Dfa.Right d) : ∀ r ∈ d.next, Plain r := by
  intro r hr n hn
  obtain ⟨i, hi, rfl⟩ := List.getElem_of_mem hr
  obtain ⟨_, h2, _, _, h5⟩ := h
  obtain ⟨_, _, _, k⟩ := h5 i hi
  have hrow : Dfa.row d i = d.next[i] := by unfold Dfa.row; rw [List.getD_eq_getElem?_getD, List.getElem?_eq_getElem hi]; rfl
  rw [hrow] at k
  obtain ⟨j, hj, rfl⟩ := List.getElem_of_mem hn
  have := k j hj
  rw [List.getD_eq_getElem?_getD, List.getElem?_eq_getElem hj] at this
  simp only [Option.getD_some] at this
  omega
end Tb
end Go.Proofs.Ytldidoaagijnhaa
