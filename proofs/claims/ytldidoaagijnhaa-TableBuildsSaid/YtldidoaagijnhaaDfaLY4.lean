/- From which states a rule can be reached, as plain law; rows of truth values. -/
import Derived.Test.YtldidoaagijnhaaDfaMY4
namespace Go.Proofs.Ytldidoaagijnhaa
set_option linter.unusedSimpArgs false
set_option linter.unusedVariables false
namespace Dfa
open H
/-- A rule can be reached. -/
inductive Reach (d : D) : Nat → Prop where
  | base (i : Nat) (hi : i < d.next.length) (h : 0 ≤ d.rules.getD i 0) : Reach d i
  | step (i j : Nat) (hi : i < d.next.length) (hj : j < (row d i).length) (h : Reach d ((row d i).getD j 0).toNat) : Reach d i
/-- What Live answers. -/
def LiveOf (d : D) (l : List Bool) : Prop := if Right d then l.length = d.next.length ∧ ∀ i, i < d.next.length → (l.getD i false = true ↔ Reach d i) else l = []
theorem live_unique {d : D} {l m : List Bool} (h1 : LiveOf d l) (h2 : LiveOf d m) : l = m := by
  unfold LiveOf at h1 h2
  split at h1
  · rename_i hr
    rw [if_pos hr] at h2
    apply List.ext_getElem (h1.1.trans h2.1.symm)
    intro i k1 k2
    have e1 := h1.2 i (by omega)
    have e2 := h2.2 i (by omega)
    rw [List.getD_eq_getElem?_getD, List.getElem?_eq_getElem k1] at e1
    rw [List.getD_eq_getElem?_getD, List.getElem?_eq_getElem k2] at e2
    simp only [Option.getD_some] at e1 e2
    exact Bool.eq_iff_iff.2 (e1.trans e2.symm)
  · rename_i hr
    rw [if_neg hr] at h2
    rw [h1, h2]
theorem set_getD {o : List Bool} {i k : Nat} {b : Bool} (hi : i < o.length) : (o.set i b).getD k false = if k = i then b else o.getD k false := by
  rw [List.getD_eq_getElem?_getD, List.getD_eq_getElem?_getD, List.getElem?_set]
  by_cases h : i = k
  · subst h; simp [hi]
  · rw [if_neg h, if_neg (Ne.symm h)]
/-- How many are not set. -/
def open_ (o : List Bool) : Nat := o.countP fun b => !b
theorem open_set {o : List Bool} : ∀ {i : Nat}, i < o.length → o.getD i false = false → open_ (o.set i true) + 1 = open_ o := by
  induction o with
  | nil => intro i h; simp at h
  | cons a o ih =>
    intro i hi h
    cases i with
    | zero =>
      have : a = false := by simpa using h
      subst this
      unfold open_
      rw [List.set_cons_zero, List.countP_cons_of_neg (by simp), List.countP_cons_of_pos (by simp)]
    | succ i =>
      have := ih (i := i) (by simpa using hi) (by simpa using h)
      unfold open_ at this ⊢
      rw [List.set_cons_succ]
      cases a
      · rw [List.countP_cons_of_pos (by simp), List.countP_cons_of_pos (by simp)]; omega
      · rw [List.countP_cons_of_neg (by simp), List.countP_cons_of_neg (by simp)]; exact this
/-- What is sound, has the base and is closed is it. -/
theorem live_of {d : D} (hr : Right d) {o : List Bool} (hl : o.length = d.next.length) (hs : ∀ i, i < d.next.length → o.getD i false = true → Reach d i) (hb : ∀ i, i < d.next.length → 0 ≤ d.rules.getD i 0 → o.getD i false = true)
    (hc : ∀ i, i < d.next.length → ∀ j, j < (row d i).length → o.getD ((row d i).getD j 0).toNat false = true → o.getD i false = true) : LiveOf d o := by
  unfold LiveOf
  rw [if_pos hr]
  refine ⟨hl, fun i hi => ⟨hs i hi, fun h => ?_⟩⟩
  clear hi
  induction h with
  | base i hi h => exact hb i hi h
  | step i j hi hj _ ih => exact hc i hi j hj ih
/-- A row of truth values as cells. -/
def bv (l : List Bool) : List Value := l.map .bool
theorem bv_len (l : List Bool) : (bv l).length = l.length := by simp [bv]
theorem bv_get (l : List Bool) (k : Nat) (h : k < l.length) : (bv l)[k]? = some (.bool (l.getD k false)) := by
  simp [bv, List.getD_eq_getElem?_getD, List.getElem?_eq_getElem h]
theorem bv_set (l : List Bool) (k : Nat) (b : Bool) : (bv l).set k (.bool b) = bv (l.set k b) := by simp [bv, List.map_set]
theorem bv_rd {w : World} {h : List Res} {g : Nat} {t : TypeId} {l : List Bool} (hs : Sat w h) (hm : Res.cells g t (List.toArray (bv l)) ∈ h) : Rd w (some ⟨g, 0, none⟩) l.length 1 (ofL (fun x => [.bool x]) false l) := by
  refine rd_cells (hs.mem _ hm) 0 l.length 1 _ (hs.lt _ hm g rfl) (fun i _ => rfl) fun i j hi hj => ?_
  obtain rfl : j = 0 := by omega
  rw [Nat.zero_add, Nat.mul_one, Nat.add_zero, List.getElem?_toArray, bv_get l i hi]
  rfl
theorem made_bools (n : Nat) : Go.madeCells (Value.bool false).cells n = (List.toArray (bv (List.replicate n false))) := by
  apply Array.ext'
  have h := Go.toList_madeCells_one (Value.bool false) n
  rw [show (Value.bool false).cells = #[Value.bool false] from rfl, h]
  simp [bv]
/-- How many cells of the first row are not set (for a measure). -/
def headCount : List Res → Nat
  | .cells _ _ cs :: _ => cs.toList.countP fun v => match v with | .bool b => !b | _ => false
  | .sem _ _ _ :: h => headCount h
  | _ => 0
def slen : Value → Nat
  | .slice _ n _ => n
  | _ => 0
theorem slen_slice (a : Option Addr) (n c : Nat) : slen (.slice a n c) = n := rfl
theorem headCount_bv (g : Nat) (t : TypeId) (l : List Bool) (h : List Res) : headCount (.cells g t (List.toArray (bv l)) :: h) = open_ l := by
  unfold headCount open_ bv
  induction l with
  | nil => rfl
  | cons a l ih =>
    simp only [List.map_cons] at ih ⊢
    cases a
    · rw [List.countP_cons_of_pos (by rfl), List.countP_cons_of_pos (by rfl), ih]
    · rw [List.countP_cons_of_neg (by simp), List.countP_cons_of_neg (by simp), ih]
def flag : Value → Nat
  | .bool true => 1
  | _ => 0
theorem flag_t : flag (.bool true) = 1 := rfl
theorem flag_f : flag (.bool false) = 0 := rfl
attribute [irreducible] bv
/-- A new row of truth values, or none. -/
def NewBools (t : TypeId) (v : Value) (rs : List Res) (l : List Bool) : Prop := (l = [] ∧ v = .slice none 0 0 ∧ rs = []) ∨ ∃ g, v = .slice (some ⟨g, 0, none⟩) l.length l.length ∧ rs = [.cells g t (List.toArray (bv l))]
end Dfa
end Go.Proofs.Ytldidoaagijnhaa
