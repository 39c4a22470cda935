/- Many rows of one's own, one for each number: rows of rows. -/
import Derived.Test.YtldidoaagijnhaaRead
namespace Go.Proofs.Ytldidoaagijnhaa
set_option linter.unusedSimpArgs false
set_option linter.unusedVariables false
namespace H
open Go
def RowsP (e : TypeId) (S : Nat → Prop) (vs : Nat → Value) (xs : Nat → List Value) (w : World) : Prop :=
  (∀ i, S i → w.ownsRow 0 e 1 (vs i) (xs i).length (xs i)) ∧ ∀ i j, S i → S j → i ≠ j → ∀ k, (vs i).ownBlock = some k → (vs j).ownBlock ≠ some k
theorem rows_stable (e : TypeId) (S : Nat → Prop) (vs : Nat → Value) (xs : Nat → List Value) : Stable (fun k => ∃ i, S i ∧ (vs i).ownBlock = some k) (RowsP e S vs xs) :=
  fun w w' hb h => ⟨fun i hi => own_stable e 1 (vs i) _ (xs i) w w' (fun k hk => hb k ⟨i, hi, hk⟩) (h.1 i hi), h.2⟩
def RowsOwn (e : TypeId) (S : Nat → Prop) (vs : Nat → Value) (xs : Nat → List Value) : Res := .sem (fun k => ∃ i, S i ∧ (vs i).ownBlock = some k) (RowsP e S vs xs) (rows_stable e S vs xs)
section
variable (e : TypeId) (S : Nat → Prop) (vs : Nat → Value) (xs : Nat → List Value) (h : List Res)
theorem look_rows (ad : Addr) : look ad (RowsOwn e S vs xs :: h) = look ad h := rfl
theorem lookN_rows (ad : Addr) (m : Nat) : lookN ad m (RowsOwn e S vs xs :: h) = lookN ad m h := rfl
theorem hset_rows (ad : Addr) (u : Value) : hset ad u (RowsOwn e S vs xs :: h) = (hset ad u h).map (RowsOwn e S vs xs :: ·) := rfl
end
attribute [go_sem] look_rows lookN_rows hset_rows
theorem Sat.rows_nil {w : World} {h : List Res} (e : TypeId) (S : Nat → Prop) (hs : Sat w h) : Sat w (RowsOwn e S (fun _ => .slice none 0 0) (fun _ => []) :: h) :=
  ⟨⟨fun _ _ => World.ownsRow_nil w 0 e 1, fun _ _ _ _ _ k hk => by simp [Value.ownBlock] at hk⟩, fun k ⟨i, _, hk⟩ => by simp [Value.ownBlock] at hk, fun _ _ k ⟨i, _, hk⟩ => by simp [Value.ownBlock] at hk, hs⟩
theorem Sat.rows_split {w : World} {h : List Res} {e : TypeId} {S : Nat → Prop} {vs : Nat → Value} {xs : Nat → List Value} (t : Nat) (ht : S t) (hs : Sat w (RowsOwn e S vs xs :: h)) :
    Sat w (Own e 1 (vs t) (xs t).length (xs t) :: RowsOwn e (fun i => S i ∧ i ≠ t) vs xs :: h) := by
  obtain ⟨h1, h2, h3, h4⟩ := hs
  have h1' : RowsP e S vs xs w := h1
  have h2' : ∀ k, (∃ i, S i ∧ (vs i).ownBlock = some k) → k < w.heap.size := h2
  have h3' : ∀ r ∈ h, ∀ k, (∃ i, S i ∧ (vs i).ownBlock = some k) → ¬ r.fp k := h3
  refine ⟨h1'.1 t ht, fun k hk => h2' k ⟨t, ht, hk⟩, fun r hr k hk hk' => ?_, ⟨fun i hi => h1'.1 i hi.1, fun i j hi hj => h1'.2 i j hi.1 hj.1⟩, fun k ⟨i, hi, hk⟩ => h2' k ⟨i, hi.1, hk⟩, fun r hr k ⟨i, hi, hk⟩ => h3' r hr k ⟨i, hi.1, hk⟩, h4⟩
  rcases List.mem_cons.1 hr with rfl | hm
  · obtain ⟨i, hi, hki⟩ : ∃ i, (S i ∧ i ≠ t) ∧ (vs i).ownBlock = some k := hk'
    exact h1'.2 i t hi.1 ht hi.2 k hki hk
  · exact h3' r hm k ⟨t, ht, hk⟩ hk'
theorem Sat.rows_join {w : World} {h : List Res} {e : TypeId} {S : Nat → Prop} {vs : Nat → Value} {xs : Nat → List Value} (t : Nat) (v : Value) (n : Nat) (x : List Value) (hs : Sat w (Own e 1 v n x :: RowsOwn e (fun i => S i ∧ i ≠ t) vs xs :: h)) :
    Sat w (RowsOwn e S (fun i => if i = t then v else vs i) (fun i => if i = t then x else xs i) :: h) := by
  obtain ⟨h1, h2, h3, k1, k2, k3, k4⟩ := hs
  have h1' : w.ownsRow 0 e 1 v n x := h1
  have hn : x.length = n := by have := h1'.1; omega
  subst hn
  have k1' : RowsP e (fun i => S i ∧ i ≠ t) vs xs w := k1
  have h3' : ∀ r ∈ RowsOwn e (fun i => S i ∧ i ≠ t) vs xs :: h, ∀ k, v.ownBlock = some k → ¬ r.fp k := h3
  have hno : ∀ k i, v.ownBlock = some k → S i → i ≠ t → (vs i).ownBlock ≠ some k := fun k i hk hi hit hki => h3' (RowsOwn e (fun i => S i ∧ i ≠ t) vs xs) (List.mem_cons_self ..) k hk (show ∃ j, (S j ∧ j ≠ t) ∧ (vs j).ownBlock = some k from ⟨i, ⟨hi, hit⟩, hki⟩)
  refine ⟨⟨fun i hi => ?_, fun i j hi hj hij k hk hk' => ?_⟩, fun k hk => ?_, fun r hr k hk hk' => ?_, k4⟩
  · by_cases hit : i = t
    · simp only [hit, if_true]; exact h1'
    · simp only [if_neg hit]; exact k1'.1 i ⟨hi, hit⟩
  · by_cases hit : i = t
    · have hjt : j ≠ t := fun e => hij (hit.trans e.symm)
      simp only [hit, if_true] at hk
      simp only [if_neg hjt] at hk'
      exact hno k j hk hj hjt hk'
    · simp only [if_neg hit] at hk
      by_cases hjt : j = t
      · simp only [hjt, if_true] at hk'
        exact hno k i hk' hi hit hk
      · simp only [if_neg hjt] at hk'
        exact k1'.2 i j ⟨hi, hit⟩ ⟨hj, hjt⟩ hij k hk hk'
  · obtain ⟨i, hi, hki⟩ : ∃ i, S i ∧ (if i = t then v else vs i).ownBlock = some k := hk
    by_cases hit : i = t
    · simp only [hit, if_true] at hki; exact h2 k hki
    · simp only [if_neg hit] at hki; exact k2 k ⟨i, ⟨hi, hit⟩, hki⟩
  · obtain ⟨i, hi, hki⟩ : ∃ i, S i ∧ (if i = t then v else vs i).ownBlock = some k := hk
    by_cases hit : i = t
    · simp only [hit, if_true] at hki; exact h3' r (by simp [hr]) k hki hk'
    · simp only [if_neg hit] at hki; exact k3 r hr k ⟨i, ⟨hi, hit⟩, hki⟩ hk'
/-- How such a row reads. -/
theorem rows_rd {w : World} {e : TypeId} {S : Nat → Prop} {vs : Nat → Value} {xs : Nat → List Value} (h : RowsP e S vs xs w) (i : Nat) (hi : S i) : ∃ a c, vs i = .slice a (xs i).length c ∧ (xs i).length ≤ c ∧ Rd w a (xs i).length 1 (fun k => [(xs i).getD k undef]) ∧ ∀ k, a.map (·.block) = some k → (vs i).ownBlock = some k := by
  have ho := h.1 i hi
  obtain ⟨a, c, hv, hc⟩ := own_slice ho
  refine ⟨a, c, hv, hc, ?_, fun k hk => ?_⟩
  · rw [hv] at ho
    have hf : flat (xs i).length (fun k => [(xs i).getD k undef]) = xs i := by
      have := flat_ofL (fun v : Value => [v]) undef (xs i)
      rw [show (xs i).flatMap (fun v => [v]) = xs i by simp] at this
      exact this
    exact rd_own (g := fun k => [(xs i).getD k undef]) (by rw [hf]; exact ho) fun _ _ => rfl
  · rw [hv]
    cases a with
    | none => simp at hk
    | some a => simpa [Value.ownBlock] using hk
/-- A shorter part of an own row, from its beginning. -/
theorem Sat.own_shrink {w : World} {h : List Res} {e : TypeId} {z n c : Nat} {a : Option Addr} {xs : List Value} (m : Nat) (hm : m ≤ n) (ha : a ≠ none) (hs : Sat w (Own e z (.slice a n c) n xs :: h)) : Sat w (Own e z (.slice a m c) m (xs.take (m * z)) :: h) := by
  obtain ⟨h1, h2, h3, h4⟩ := hs
  have h1' : w.ownsRow 0 e z (.slice a n c) n xs := h1
  refine ⟨?_, fun k hk => h2 k ?_, fun r hr k hk => h3 r hr k ?_, h4⟩
  · rcases h1'.2 with ⟨hv, _⟩ | ⟨g, cap, cur, hv, h0, hg, hn, hmx, hcs, ht⟩
    · injection hv with e1; exact absurd e1 ha
    · injection hv with e1 e2 e3
      subst e1 e3
      have hmn : m * z ≤ n * z := Nat.mul_le_mul_right z hm
      refine ⟨by rw [List.length_take, h1'.1]; omega, .inr ⟨g, c, cur, rfl, h0, hg, by omega, hmx, hcs, ?_⟩⟩
      rw [← ht, List.take_take, Nat.min_eq_left hmn]
  · cases a <;> exact hk
  · cases a <;> exact hk
theorem vals_setf (n : Nat) (g : Nat → Value) (k : Nat) (v : Value) : (vals n g).set k v = vals n (fun i => if i = k then v else g i) :=
  vals_set n g _ k v (if_pos rfl) fun i hi => if_neg hi
theorem made_nils (n : Nat) : Go.madeCells (Value.slice none 0 0).cells n = List.toArray (vals n fun _ => .slice none 0 0) := by
  rw [← vals_replicate]
  apply Array.ext'
  have h := Go.toList_madeCells_one (Value.slice none 0 0) n
  rw [show (Value.slice none 0 0).cells = #[Value.slice none 0 0] from rfl, h]
  simp
theorem look_anchor1 (b o : Nat) (s : Option Nat) (w0 : World) (g : Nat) (h : List Res) (hb : b < w0.heap.size) (hg : b ≠ g) : look ⟨b, o, s⟩ (.anchor w0 [g] :: h) = w0.cell? ⟨b, o, s⟩ := by simp [look, hb, hg]
theorem lookN_anchor1 (b o n : Nat) (s : Option Nat) (w0 : World) (g : Nat) (h : List Res) (hb : b < w0.heap.size) (hg : b ≠ g) : lookN ⟨b, o, s⟩ n (.anchor w0 [g] :: h) = cellsN w0 ⟨b, o, s⟩ n := by simp [lookN, hb, hg, cellsN]
attribute [go_sem] vals_setf look_anchor1 lookN_anchor1
/-- From here on: nothing turns but one row. -/
theorem Sat.reanchor {w : World} {g : Nat} {t : TypeId} {cs : Array Value} {h : List Res} (hs : Sat w (.cells g t cs :: h)) : Sat w [.cells g t cs, .anchor w [g]] :=
  ⟨hs.1, hs.2.1, fun r hr k hk hk' => by
    obtain rfl : r = .anchor w [g] := by simpa using hr
    obtain rfl : k = g := hk
    exact hk'.2 (by simp), Sat.start w [g]⟩
/-- What was known there, with the row as it is now. -/
theorem Sat.merge {w w' : World} {r : Res} {g : Nat} {t : TypeId} {cs cs' : Array Value} {rest : List Res} (h : Sat w (r :: .cells g t cs :: rest)) (h' : Sat w' [.cells g t cs', .anchor w [g]]) : Sat w' (r :: .cells g t cs' :: rest) := by
  have hx : Ext [g] w w' := h'.mem (.anchor w [g]) (by simp)
  obtain ⟨a1, a2, a3, b1, b2, b3, b4⟩ := h
  have hrg : ∀ k, r.fp k → k ≠ g := fun k hk e => a3 (.cells g t cs) (by simp) k hk e
  have hqg : ∀ q ∈ rest, ∀ k, q.fp k → k ≠ g := fun q hq k hk e => b3 q hq k e hk
  refine ⟨Res.keep hx a1 a2 fun k hk hk' => hrg k hk' (by simpa using hk), fun k hk => Nat.lt_of_lt_of_le (a2 k hk) hx.size, fun q hq k hk hk' => ?_, h'.1, h'.2.1, fun q hq k hk hk' => ?_, b4.keep hx fun q hq k hk hk' => hqg q hq k hk' (by simpa using hk)⟩
  · rcases List.mem_cons.1 hq with rfl | hm
    · exact hrg k hk hk'
    · exact a3 q (by simp [hm]) k hk hk'
  · exact hqg q hq k hk' hk
theorem Sat.anchor_back {w0 w1 w' : World} {g : Nat} {t : TypeId} {cs : Array Value} (h : Sat w' [.cells g t cs, .anchor w1 [g]]) (hx : Ext [] w0 w1) (hg : w0.heap.size ≤ g) : Sat w' [.cells g t cs, .anchor w0 []] := by
  have hx' : Ext [g] w1 w' := h.mem (.anchor w1 [g]) (by simp)
  have hxx : Ext [] w0 w' := ⟨hx'.os.trans hx.os, hx'.tape.trans hx.tape, hx'.output.trans hx.output, Nat.le_trans hx.size hx'.size, fun k hk _ => (hx'.block k (Nat.lt_of_lt_of_le hk hx.size) (by simp; omega)).trans (hx.block k hk (by simp))⟩
  exact ⟨h.1, h.2.1, fun r hr k hk hk' => by
    obtain rfl : r = .anchor w0 [] := by simpa using hr
    obtain rfl : k = g := hk
    have := hk'.1
    omega, hxx, fun k hk => Nat.lt_of_lt_of_le hk.1 hxx.size, fun _ h => absurd h (by simp), trivial⟩
theorem Ext.back {w0 w1 w2 : World} {g : Nat} (h : Ext [] w0 w1) (h' : Ext [g] w1 w2) (hg : w0.heap.size ≤ g) : Ext [] w0 w2 :=
  ⟨h'.os.trans h.os, h'.tape.trans h.tape, h'.output.trans h.output, Nat.le_trans h.size h'.size, fun k hk _ => (h'.block k (Nat.lt_of_lt_of_le hk h.size) (by simp; omega)).trans (h.block k hk (by simp))⟩
/-- How a slice reads where one row has turned. -/
theorem Rd.keep1 {w w' : World} {a : Option Addr} {n z g : Nat} {f : Nat → List Value} (h : Rd w a n z f) (hx : Ext [g] w w') (hg : ∀ k, a.map (·.block) = some k → k ≠ g) : Rd w' a n z f := by
  intro hn
  obtain ⟨b, o, e, hb, hc⟩ := h hn
  subst e
  have hbg := hg b rfl
  refine ⟨b, o, rfl, Nat.lt_of_lt_of_le hb hx.size, fun i hi => ⟨(hc i hi).1, fun j hj => ?_⟩⟩
  rw [← (hc i hi).2 j hj]
  exact cell_of_block (hx.block b hb (by simpa using hbg))
end H
end Go.Proofs.Ytldidoaagijnhaa
