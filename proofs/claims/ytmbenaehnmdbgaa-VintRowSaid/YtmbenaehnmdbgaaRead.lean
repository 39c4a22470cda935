/- Slices that are read: what their elements are. -/
import Derived.Test.YtmbenaehnmdbgaaGrow
namespace Go.Proofs.Ytmbenaehnmdbgaa
set_option linter.unusedSimpArgs false
set_option linter.unusedVariables false
namespace H
open Go

theorem cell_lt {w : World} {ad : Addr} {v : Value} (h : w.cell? ad = some v) : ad.block < w.heap.size := by
  unfold World.cell? at h
  rcases Nat.lt_or_ge ad.block w.heap.size with hlt | hge
  · exact hlt
  · rw [Array.getElem?_eq_none hge] at h; cases h
theorem mapM_range {β : Type} {f : Nat → Option β} (l : List β) (n : Nat) (hl : l.length = n) (h : ∀ i, i < n → f i = l[i]?) : (List.range n).mapM f = some l := by
  subst hl
  have : ∀ (k : Nat) (r : List β), r = l.drop k → (List.range' k r.length).mapM f = some r := by
    intro k r
    induction r generalizing k with
    | nil => intro _; simp
    | cons x r ih =>
      intro e
      have hk : k < l.length := by
        rcases Nat.lt_or_ge k l.length with hh | hh
        · exact hh
        · rw [List.drop_eq_nil_of_le hh] at e; cases e
      rw [List.drop_eq_getElem_cons hk] at e
      injection e with e1 e2
      rw [List.length_cons, List.range'_succ, List.mapM_cons, h k hk, List.getElem?_eq_getElem hk, ← e1, ih (k + 1) e2]
      rfl
  have := this 0 l (by simp)
  rwa [← List.range_eq_range'] at this

/-- A slice at a, n elements of z cells each: the cells of element i are g i. -/
def Rd (w : World) (a : Option Addr) (n z : Nat) (g : Nat → List Value) : Prop :=
  0 < n → ∃ b o, a = some ⟨b, o, none⟩ ∧ b < w.heap.size ∧ ∀ i, i < n → (g i).length = z ∧ ∀ j, j < z → w.cell? ⟨b, o + i * z + j, none⟩ = (g i)[j]?

theorem Rd.keep {w w' : World} {a : Option Addr} {n z : Nat} {g : Nat → List Value} (h : Rd w a n z g) (hx : Ext [] w w') : Rd w' a n z g := by
  intro hn
  obtain ⟨b, o, e, hb, hc⟩ := h hn
  refine ⟨b, o, e, Nat.lt_of_lt_of_le hb hx.size, fun i hi => ⟨(hc i hi).1, fun j hj => ?_⟩⟩
  rw [← (hc i hi).2 j hj]
  exact cell_of_block (hx.block b hb (by simp))
theorem Rd.nil (w : World) (a : Option Addr) (z : Nat) (g : Nat → List Value) : Rd w a 0 z g := fun h => absurd h (by omega)
/-- A part of it. -/
theorem Rd.part {w : World} {b o n z : Nat} {g : Nat → List Value} (h : Rd w (some ⟨b, o, none⟩) n z g) (lo m : Nat) (hm : lo + m ≤ n) : Rd w (some ⟨b, o + lo * z, none⟩) m z (fun i => g (lo + i)) := by
  intro hn
  obtain ⟨b', o', e, hb, hc⟩ := h (by omega)
  injection e with e
  injection e with e1 e2
  subst e1 e2
  refine ⟨b, o + lo * z, rfl, hb, fun i hi => ⟨(hc (lo + i) (by omega)).1, fun j hj => ?_⟩⟩
  rw [← (hc (lo + i) (by omega)).2 j hj, Nat.add_mul]
  congr 2; omega

/-- What a test of the walk asks of an element. -/
theorem Rd.at_ {w : World} {a : Option Addr} {n z : Nat} {g : Nat → List Value} (h : Rd w a n z g) (i : Nat) (hi : i < n) :
    ∃ b o, a = some ⟨b, o, none⟩ ∧ b < w.heap.size ∧ cellsN w ⟨b, o + i * z, none⟩ z = some (g i).toArray ∧ ∀ j, j < z → w.cell? ⟨b, o + i * z + j, none⟩ = (g i)[j]? := by
  obtain ⟨b, o, e, hb, hc⟩ := h (by omega)
  refine ⟨b, o, e, hb, ?_, (hc i hi).2⟩
  unfold cellsN
  rw [mapM_range (g i) z (hc i hi).1 fun j hj => by rw [add_at]; exact (hc i hi).2 j hj]
  rfl

/-- All cells of the first n elements. -/
def flat (n : Nat) (g : Nat → List Value) : List Value := (List.range n).flatMap g
theorem flat_zero (g : Nat → List Value) : flat 0 g = [] := rfl
theorem flat_succ (n : Nat) (g : Nat → List Value) : flat (n + 1) g = flat n g ++ g n := by
  unfold flat; rw [List.range_succ, List.flatMap_append]; simp
theorem flat_len {n z : Nat} {g : Nat → List Value} (h : ∀ i, i < n → (g i).length = z) : (flat n g).length = n * z := by
  induction n with
  | zero => simp [flat]
  | succ n ih => rw [flat_succ, List.length_append, ih fun i hi => h i (by omega), h n (by omega), Nat.succ_mul]
theorem flat_get {n z : Nat} {g : Nat → List Value} (h : ∀ i, i < n → (g i).length = z) : ∀ i j, i < n → j < z → (flat n g)[i * z + j]? = (g i)[j]? := by
  induction n with
  | zero => intro i j hi; omega
  | succ n ih =>
    intro i j hi hj
    have hl : (flat n g).length = n * z := flat_len fun i hi => h i (by omega)
    rw [flat_succ]
    by_cases he : i = n
    · subst he
      rw [List.getElem?_append_right (by omega), hl]
      congr 1; omega
    · have hlt : i * z + j < n * z := by
        have : (i + 1) * z ≤ n * z := Nat.mul_le_mul_right z (by omega)
        rw [Nat.add_mul] at this; omega
      rw [List.getElem?_append_left (by omega)]
      exact ih (fun i hi => h i (by omega)) i j (by omega) hj
theorem flat_congr {n : Nat} {g g' : Nat → List Value} (h : ∀ i, i < n → g i = g' i) : flat n g = flat n g' := by
  induction n with
  | zero => rfl
  | succ n ih => rw [flat_succ, flat_succ, ih fun i hi => h i (by omega), h n (by omega)]
theorem Rd.congr {w : World} {a : Option Addr} {n z : Nat} {g g' : Nat → List Value} (h : Rd w a n z g) (hg : ∀ i, i < n → g i = g' i) : Rd w a n z g' := by
  intro hn
  obtain ⟨b, o, e, hb, hc⟩ := h hn
  exact ⟨b, o, e, hb, fun i hi => by rw [← hg i hi]; exact hc i hi⟩
/-- A list of things that take z cells each. -/
def ofL {α : Type} (cf : α → List Value) (d : α) (l : List α) : Nat → List Value := fun i => cf (l.getD i d)
theorem flat_ofL {α : Type} (cf : α → List Value) (d : α) (l : List α) : flat l.length (ofL cf d l) = l.flatMap cf := by
  have : ∀ k, k ≤ l.length → flat k (ofL cf d l) = (l.take k).flatMap cf := by
    intro k
    induction k with
    | zero => intro _; simp [flat]
    | succ k ih =>
      intro hk
      rw [flat_succ, ih (by omega), List.take_add_one, List.flatMap_append, List.getElem?_eq_getElem (by omega)]
      simp [ofL, List.getElem?_eq_getElem (show k < l.length by omega)]
  have := this l.length (Nat.le_refl _)
  rwa [List.take_length] at this
theorem ofL_drop {α : Type} (cf : α → List Value) (d : α) (l : List α) (lo i : Nat) : ofL cf d l (lo + i) = ofL cf d (l.drop lo) i := by
  unfold ofL; simp [List.getD_eq_getElem?_getD]
theorem ofL_take {α : Type} (cf : α → List Value) (d : α) (l : List α) (k i : Nat) (hi : i < k) : ofL cf d (l.take k) i = ofL cf d l i := by
  unfold ofL; simp [List.getD_eq_getElem?_getD, List.getElem?_take, hi]

/-- The cells one behind the other. -/
theorem Rd.cells {w : World} {b o n z : Nat} {g : Nat → List Value} (h : Rd w (some ⟨b, o, none⟩) n z g) (hz : 0 < z) : ∀ j u, (flat n g)[j]? = some u → w.cell? ⟨b, o + j, none⟩ = some u := by
  intro j u hu
  rcases Nat.eq_zero_or_pos n with rfl | hn
  · simp [flat] at hu
  obtain ⟨b', o', e, hb, hc⟩ := h hn
  injection e with e
  injection e with e1 e2
  subst e1 e2
  have hl : (flat n g).length = n * z := flat_len fun i hi => (hc i hi).1
  have hj : j < n * z := by rw [← hl]; exact (List.getElem?_eq_some_iff.1 hu).1
  have hq : j / z < n := Nat.div_lt_of_lt_mul (by rw [Nat.mul_comm]; exact hj)
  have hr := Nat.mod_lt j hz
  have he : j = j / z * z + j % z := by rw [Nat.mul_comm]; exact (Nat.div_add_mod j z).symm
  rw [he, flat_get (fun i hi => (hc i hi).1) _ _ hq hr] at hu
  rw [he, ← hu, ← (hc _ hq).2 _ hr, Nat.add_assoc]

/-- A row of one's own reads so. -/
theorem rd_own {w : World} {e : TypeId} {z n c : Nat} {a : Option Addr} {g : Nat → List Value} (h : w.ownsRow 0 e z (.slice a n c) n (flat n g)) (hg : ∀ i, i < n → (g i).length = z) : Rd w a n z g := by
  intro hn
  rcases h.2 with ⟨_, h0⟩ | ⟨k, cap, cur, hv, _, hk, _⟩
  · omega
  · injection hv with e1 e2 e3
    subst e1
    refine ⟨k, 0, rfl, (Array.getElem?_eq_some_iff.1 hk).1, fun i hi => ⟨hg i hi, fun j hj => ?_⟩⟩
    have hgj : (g i)[j]? = some ((g i)[j]'(by rw [hg i hi]; exact hj)) := List.getElem?_eq_getElem _
    have := h.cells (g := k) rfl (i * z + j) _ ((flat_get hg i j hi hj).trans hgj)
    rw [add_at] at this
    rw [hgj, ← this, Nat.zero_add, Nat.zero_add]
/-- A row of cells reads so. -/
theorem rd_cells {w : World} {k : Nat} {t : TypeId} {cs : Array Value} (h : Row w k t cs) (o n z : Nat) (g : Nat → List Value) (hk : k < w.heap.size) (hg : ∀ i, i < n → (g i).length = z) (hc : ∀ i j, i < n → j < z → cs[o + i * z + j]? = (g i)[j]?) : Rd w (some ⟨k, o, none⟩) n z g := by
  intro _
  refine ⟨k, o, rfl, hk, fun i hi => ⟨hg i hi, fun j hj => ?_⟩⟩
  rw [cell_cells h rfl, if_pos rfl, hc i j hi hj]

/-- Joining a callee's new blocks with what is known. -/
theorem Sat.join {w w' : World} {h : List Res} (hs : Sat w h) : ∀ {rs : List Res}, Sat w' (rs ++ [.anchor w []]) → Sat w' (rs ++ h)
  | [], hr => by
    have hx : Ext [] w w' := hr.mem (.anchor w []) (by simp)
    exact hs.ext hx
  | r :: rs, hr => by
    obtain ⟨h1, h2, h3, h4⟩ := hr
    refine ⟨h1, h2, fun q hq k hk hk' => ?_, Sat.join hs h4⟩
    rcases List.mem_append.1 hq with hm | hm
    · exact h3 q (List.mem_append.2 (.inl hm)) k hk hk'
    · have hlt := hs.lt q hm k hk'
      exact h3 (.anchor w []) (by simp) k hk ⟨hlt, by simp⟩
/-- A call that hands back new blocks. -/
theorem RCall_new {P : Program} {k : FuncId} {args : Array Value} {d : Option Nat} {ops rest : List Oper} {s : List Kn} {f : Fr} {h : List Res} {Q : Exit → Fr → List Res → Prop} {Φ : Value → List Res → Prop}
    (c : ∀ w, Sat w h → Does P k args w fun v w' => ∃ rs, Sat w' (rs ++ [.anchor w []]) ∧ Φ v rs) (hk : ∀ v rs, Φ v rs → RL P ops rest s (put f d v) (rs ++ h) Q) : RCall P k args ⟨d, ops, rest, s⟩ f h Q :=
  RCall_any fun w hs => (c w hs).mono fun v _ ⟨rs, hr, hv⟩ => ⟨rs ++ h, hs.join hr, hk v rs hv⟩
/-- An own row as cells. -/
theorem Sat.own_cells {w : World} {h : List Res} {e : TypeId} {z g n c : Nat} {xs : List Value} (hs : Sat w (Own e z (.slice (some ⟨g, 0, none⟩) n c) n xs :: h)) :
    ∃ sp : List Value, Sat w (.cells g e (xs ++ sp).toArray :: h) ∧ xs.length = n * z := by
  obtain ⟨h1, h2, h3, h4⟩ := hs
  have ho : w.ownsRow 0 e z (.slice (some ⟨g, 0, none⟩) n c) n xs := h1
  rcases ho.2 with ⟨hv, _⟩ | ⟨k, cap, cur, hv, _, hk, _, _, hcs, ht⟩
  · cases hv
  · injection hv with e1 e2 e3
    injection e1 with e1
    injection e1 with e1
    subst e1
    refine ⟨cur.toList.drop (n * z), ⟨?_, fun k hk' => ?_, fun q hq k hk' hk'' => ?_, h4⟩, ho.1⟩
    · rw [← ht, List.take_append_drop]
      exact Row.plain hk
    · cases hk'; exact (Array.getElem?_eq_some_iff.1 hk).1
    · cases hk'; exact h3 q hq g rfl hk''
theorem own_some {w : World} {e : TypeId} {z n : Nat} {v : Value} {xs : List Value} (h : w.ownsRow 0 e z v n xs) (hn : 0 < n) : ∃ g c, v = .slice (some ⟨g, 0, none⟩) n c := by
  rcases h.2 with ⟨_, h0⟩ | ⟨g, cap, cur, rfl, _⟩
  · omega
  · exact ⟨g, cap, rfl⟩
end H
end Go.Proofs.Ytmbenaehnmdbgaa
