/- Slices that are read: what their elements are. -/
import Derived.Test.YtldidoaagijnhaaGrow
namespace Go.Proofs.Ytldidoaagijnhaa
set_option linter.unusedSimpArgs false
set_option linter.unusedVariables false
namespace H
open Go

theorem cell_lt {w : World} {ad : Addr} {v : Value} (h : w.cell? ad = some v) : ad.block < w.heap.size := by
  unfold World.cell? at h
  rcases Nat.lt_or_ge ad.block w.heap.size with hlt | hge
  · exact hlt
  · rw [Array.getElem?_eq_none hge] at h; cases h
theorem mapM_range {β : Type} {f : Nat → Option β} (l : List β) (n : Nat) (hl : l.length = n) (h : ∀ i, i < n → f i = l[i]?) : (List.range n).mapM f = some l := by
  subst hl
  have : ∀ (k : Nat) (r : List β), r = l.drop k → (List.range' k r.length).mapM f = some r := by
    intro k r
    induction r generalizing k with
    | nil => intro _; simp
    | cons x r ih =>
      intro e
      have hk : k < l.length := by
        rcases Nat.lt_or_ge k l.length with hh | hh
        · exact hh
        · rw [List.drop_eq_nil_of_le hh] at e; cases e
      rw [List.drop_eq_getElem_cons hk] at e
      injection e with e1 e2
      rw [List.length_cons, List.range'_succ, List.mapM_cons, h k hk, List.getElem?_eq_getElem hk, ← e1, ih (k + 1) e2]
      rfl
  have := this 0 l (by simp)
  rwa [← List.range_eq_range'] at this

/-- A slice at a, n elements of z cells each: the cells of element i are g i. -/
def Rd (w : World) (a : Option Addr) (n z : Nat) (g : Nat → List Value) : Prop :=
  0 < n → ∃ b o, a = some ⟨b, o, none⟩ ∧ b < w.heap.size ∧ ∀ i, i < n → (g i).length = z ∧ ∀ j, j < z → w.cell? ⟨b, o + i * z + j, none⟩ = (g i)[j]?

theorem Rd.keep {w w' : World} {a : Option Addr} {n z : Nat} {g : Nat → List Value} (h : Rd w a n z g) (hx : Ext [] w w') : Rd w' a n z g := by
  intro hn
  obtain ⟨b, o, e, hb, hc⟩ := h hn
  refine ⟨b, o, e, Nat.lt_of_lt_of_le hb hx.size, fun i hi => ⟨(hc i hi).1, fun j hj => ?_⟩⟩
  rw [← (hc i hi).2 j hj]
  exact cell_of_block (hx.block b hb (by simp))
theorem Rd.nil (w : World) (a : Option Addr) (z : Nat) (g : Nat → List Value) : Rd w a 0 z g := fun h => absurd h (by omega)
/-- A part of it. -/
theorem Rd.part {w : World} {b o n z : Nat} {g : Nat → List Value} (h : Rd w (some ⟨b, o, none⟩) n z g) (lo m : Nat) (hm : lo + m ≤ n) : Rd w (some ⟨b, o + lo * z, none⟩) m z (fun i => g (lo + i)) := by
  intro hn
  obtain ⟨b', o', e, hb, hc⟩ := h (by omega)
  injection e with e
  injection e with e1 e2
  subst e1 e2
  refine ⟨b, o + lo * z, rfl, hb, fun i hi => ⟨(hc (lo + i) (by omega)).1, fun j hj => ?_⟩⟩
  rw [← (hc (lo + i) (by omega)).2 j hj, Nat.add_mul]
  congr 2; omega

/-- What a test of the walk asks of an element. -/
theorem Rd.at_ {w : World} {a : Option Addr} {n z : Nat} {g : Nat → List Value} (h : Rd w a n z g) (i : Nat) (hi : i < n) :
    ∃ b o, a = some ⟨b, o, none⟩ ∧ b < w.heap.size ∧ cellsN w ⟨b, o + i * z, none⟩ z = some (g i).toArray ∧ ∀ j, j < z → w.cell? ⟨b, o + i * z + j, none⟩ = (g i)[j]? := by
  obtain ⟨b, o, e, hb, hc⟩ := h (by omega)
  refine ⟨b, o, e, hb, ?_, (hc i hi).2⟩
  unfold cellsN
  rw [mapM_range (g i) z (hc i hi).1 fun j hj => by rw [add_at]; exact (hc i hi).2 j hj]
  rfl

/-- All cells of the first n elements. -/
def flat (n : Nat) (g : Nat → List Value) : List Value := (List.range n).flatMap g
theorem flat_zero (g : Nat → List Value) : flat 0 g = [] := rfl
theorem flat_succ (n : Nat) (g : Nat → List Value) : flat (n + 1) g = flat n g ++ g n := by
  unfold flat; rw [List.range_succ, List.flatMap_append]; simp
theorem flat_len {n z : Nat} {g : Nat → List Value} (h : ∀ i, i < n → (g i).length = z) : (flat n g).length = n * z := by
  induction n with
  | zero => simp [flat]
  | succ n ih => rw [flat_succ, List.length_append, ih fun i hi => h i (by omega), h n (by omega), Nat.succ_mul]
theorem flat_get {n z : Nat} {g : Nat → List Value} (h : ∀ i, i < n → (g i).length = z) : ∀ i j, i < n → j < z → (flat n g)[i * z + j]? = (g i)[j]? := by
  induction n with
  | zero => intro i j hi; omega
  | succ n ih =>
    intro i j hi hj
    have hl : (flat n g).length = n * z := flat_len fun i hi => h i (by omega)
    rw [flat_succ]
    by_cases he : i = n
    · subst he
      rw [List.getElem?_append_right (by omega), hl]
      congr 1; omega
    · have hlt : i * z + j < n * z := by
        have : (i + 1) * z ≤ n * z := Nat.mul_le_mul_right z (by omega)
        rw [Nat.add_mul] at this; omega
      rw [List.getElem?_append_left (by omega)]
      exact ih (fun i hi => h i (by omega)) i j (by omega) hj
theorem flat_congr {n : Nat} {g g' : Nat → List Value} (h : ∀ i, i < n → g i = g' i) : flat n g = flat n g' := by
  induction n with
  | zero => rfl
  | succ n ih => rw [flat_succ, flat_succ, ih fun i hi => h i (by omega), h n (by omega)]
theorem Rd.congr {w : World} {a : Option Addr} {n z : Nat} {g g' : Nat → List Value} (h : Rd w a n z g) (hg : ∀ i, i < n → g i = g' i) : Rd w a n z g' := by
  intro hn
  obtain ⟨b, o, e, hb, hc⟩ := h hn
  exact ⟨b, o, e, hb, fun i hi => by rw [← hg i hi]; exact hc i hi⟩
/-- A list of things that take z cells each. -/
def ofL {α : Type} (cf : α → List Value) (d : α) (l : List α) : Nat → List Value := fun i => cf (l.getD i d)
theorem flat_ofL {α : Type} (cf : α → List Value) (d : α) (l : List α) : flat l.length (ofL cf d l) = l.flatMap cf := by
  have : ∀ k, k ≤ l.length → flat k (ofL cf d l) = (l.take k).flatMap cf := by
    intro k
    induction k with
    | zero => intro _; simp [flat]
    | succ k ih =>
      intro hk
      rw [flat_succ, ih (by omega), List.take_add_one, List.flatMap_append, List.getElem?_eq_getElem (by omega)]
      simp [ofL, List.getElem?_eq_getElem (show k < l.length by omega)]
  have := this l.length (Nat.le_refl _)
  rwa [List.take_length] at this
theorem ofL_drop {α : Type} (cf : α → List Value) (d : α) (l : List α) (lo i : Nat) : ofL cf d l (lo + i) = ofL cf d (l.drop lo) i := by
  unfold ofL; simp [List.getD_eq_getElem?_getD]
theorem ofL_take {α : Type} (cf : α → List Value) (d : α) (l : List α) (k i : Nat) (hi : i < k) : ofL cf d (l.take k) i = ofL cf d l i := by
  unfold ofL; simp [List.getD_eq_getElem?_getD, List.getElem?_take, hi]

/-- The cells one behind the other. -/
theorem Rd.cells {w : World} {b o n z : Nat} {g : Nat → List Value} (h : Rd w (some ⟨b, o, none⟩) n z g) (hz : 0 < z) : ∀ j u, (flat n g)[j]? = some u → w.cell? ⟨b, o + j, none⟩ = some u := by
  intro j u hu
  rcases Nat.eq_zero_or_pos n with rfl | hn
  · simp [flat] at hu
  obtain ⟨b', o', e, hb, hc⟩ := h hn
  injection e with e
  injection e with e1 e2
  subst e1 e2
  have hl : (flat n g).length = n * z := flat_len fun i hi => (hc i hi).1
  have hj : j < n * z := by rw [← hl]; exact (List.getElem?_eq_some_iff.1 hu).1
  have hq : j / z < n := Nat.div_lt_of_lt_mul (by rw [Nat.mul_comm]; exact hj)
  have hr := Nat.mod_lt j hz
  have he : j = j / z * z + j % z := by rw [Nat.mul_comm]; exact (Nat.div_add_mod j z).symm
  rw [he, flat_get (fun i hi => (hc i hi).1) _ _ hq hr] at hu
  rw [he, ← hu, ← (hc _ hq).2 _ hr, Nat.add_assoc]

/-- A row of one's own reads so. -/
theorem rd_own {w : World} {e : TypeId} {z n c : Nat} {a : Option Addr} {g : Nat → List Value} (h : w.ownsRow 0 e z (.slice a n c) n (flat n g)) (hg : ∀ i, i < n → (g i).length = z) : Rd w a n z g := by
  intro hn
  rcases h.2 with ⟨_, h0⟩ | ⟨k, cap, cur, hv, _, hk, _⟩
  · omega
  · injection hv with e1 e2 e3
    subst e1
    refine ⟨k, 0, rfl, (Array.getElem?_eq_some_iff.1 hk).1, fun i hi => ⟨hg i hi, fun j hj => ?_⟩⟩
    have hgj : (g i)[j]? = some ((g i)[j]'(by rw [hg i hi]; exact hj)) := List.getElem?_eq_getElem _
    have := h.cells (g := k) rfl (i * z + j) _ ((flat_get hg i j hi hj).trans hgj)
    rw [add_at] at this
    rw [hgj, ← this, Nat.zero_add, Nat.zero_add]
/-- A row of cells reads so. -/
theorem rd_cells {w : World} {k : Nat} {t : TypeId} {cs : Array Value} (h : Row w k t cs) (o n z : Nat) (g : Nat → List Value) (hk : k < w.heap.size) (hg : ∀ i, i < n → (g i).length = z) (hc : ∀ i j, i < n → j < z → cs[o + i * z + j]? = (g i)[j]?) : Rd w (some ⟨k, o, none⟩) n z g := by
  intro _
  refine ⟨k, o, rfl, hk, fun i hi => ⟨hg i hi, fun j hj => ?_⟩⟩
  rw [cell_cells h rfl, if_pos rfl, hc i j hi hj]

/-- Joining a callee's new blocks with what is known. -/
theorem Sat.join {w w' : World} {h : List Res} (hs : Sat w h) : ∀ {rs : List Res}, Sat w' (rs ++ [.anchor w []]) → Sat w' (rs ++ h)
  | [], hr => by
    have hx : Ext [] w w' := hr.mem (.anchor w []) (by simp)
    exact hs.ext hx
  | r :: rs, hr => by
    obtain ⟨h1, h2, h3, h4⟩ := hr
    refine ⟨h1, h2, fun q hq k hk hk' => ?_, Sat.join hs h4⟩
    rcases List.mem_append.1 hq with hm | hm
    · exact h3 q (List.mem_append.2 (.inl hm)) k hk hk'
    · have hlt := hs.lt q hm k hk'
      exact h3 (.anchor w []) (by simp) k hk ⟨hlt, by simp⟩
/-- A call that hands back new blocks. -/
theorem RCall_new {P : Program} {k : FuncId} {args : Array Value} {d : Option Nat} {ops rest : List Oper} {s : List Kn} {f : Fr} {h : List Res} {Q : Exit → Fr → List Res → Prop} {Φ : Value → List Res → Prop}
    (c : ∀ w, Sat w h → Does P k args w fun v w' => ∃ rs, Sat w' (rs ++ [.anchor w []]) ∧ Φ v rs) (hk : ∀ v rs, Φ v rs → RL P ops rest s (put f d v) (rs ++ h) Q) : RCall P k args ⟨d, ops, rest, s⟩ f h Q :=
  RCall_any fun w hs => (c w hs).mono fun v _ ⟨rs, hr, hv⟩ => ⟨rs ++ h, hs.join hr, hk v rs hv⟩
/-- An own row as cells. -/
theorem Sat.own_cells {w : World} {h : List Res} {e : TypeId} {z g n c : Nat} {xs : List Value} (hs : Sat w (Own e z (.slice (some ⟨g, 0, none⟩) n c) n xs :: h)) :
    ∃ sp : List Value, Sat w (.cells g e (xs ++ sp).toArray :: h) ∧ xs.length = n * z := by
  obtain ⟨h1, h2, h3, h4⟩ := hs
  have ho : w.ownsRow 0 e z (.slice (some ⟨g, 0, none⟩) n c) n xs := h1
  rcases ho.2 with ⟨hv, _⟩ | ⟨k, cap, cur, hv, _, hk, _, _, hcs, ht⟩
  · cases hv
  · injection hv with e1 e2 e3
    injection e1 with e1
    injection e1 with e1
    subst e1
    refine ⟨cur.toList.drop (n * z), ⟨?_, fun k hk' => ?_, fun q hq k hk' hk'' => ?_, h4⟩, ho.1⟩
    · rw [← ht, List.take_append_drop]
      exact Row.plain hk
    · cases hk'; exact (Array.getElem?_eq_some_iff.1 hk).1
    · cases hk'; exact h3 q hq g rfl hk''
theorem own_some {w : World} {e : TypeId} {z n : Nat} {v : Value} {xs : List Value} (h : w.ownsRow 0 e z v n xs) (hn : 0 < n) : ∃ g c, v = .slice (some ⟨g, 0, none⟩) n c := by
  rcases h.2 with ⟨_, h0⟩ | ⟨g, cap, cur, rfl, _⟩
  · omega
  · exact ⟨g, cap, rfl⟩
theorem Sat.perm {w : World} {h h' : List Res} (hp : h.Perm h') : Sat w h → Sat w h' := by
  induction hp with
  | nil => exact id
  | cons r p ih =>
    rintro ⟨h1, h2, h3, h4⟩
    exact ⟨h1, h2, fun q hq => h3 q (p.mem_iff.2 hq), ih h4⟩
  | swap a b l =>
    rintro ⟨h1, h2, h3, k1, k2, k3, k4⟩
    refine ⟨k1, k2, fun q hq k hk hk' => ?_, h1, h2, fun q hq => h3 q (by simp [hq]), k4⟩
    rcases List.mem_cons.1 hq with rfl | hm
    · exact h3 _ (by simp) k hk' hk
    · exact k3 q hm k hk hk'
  | trans _ _ i1 i2 => exact fun h => i2 (i1 h)
theorem Sat.swap2 {w : World} {a b : Res} {h : List Res} (hs : Sat w (a :: b :: h)) : Sat w (b :: a :: h) := hs.perm (List.Perm.swap b a h)
theorem Sat.drop2 {w : World} {a b : Res} {h : List Res} (hs : Sat w (a :: b :: h)) : Sat w (a :: h) := hs.swap2.2.2.2

-- slices of slices
theorem sliV_slice (e z b o len cap : Nat) (q q' : IntKind) (m n : Int) (h0 : 0 ≤ m) (h1 : m ≤ n) (h2 : n ≤ cap) (h3 : m < cap) : sliV (.slice e z) (.slice (some ⟨b, o, none⟩) len cap) (some (.int q m)) (some (.int q' n)) = some (.slice (some ⟨b, o + m.toNat * z, none⟩) (n.toNat - m.toNat) (cap - m.toNat)) := by
  have hne : ¬ cap = m.toNat := by omega
  simp only [sliV, numO, Option.bind_some, h0, h1, h2, and_self, if_true, if_neg hne, Option.map_some, add_at]
theorem sliV_slice_lo (e z b o len cap : Nat) (q : IntKind) (m : Int) (h0 : 0 ≤ m) (h1 : m ≤ len) (h2 : len ≤ cap) (h3 : m < cap) : sliV (.slice e z) (.slice (some ⟨b, o, none⟩) len cap) (some (.int q m)) none = some (.slice (some ⟨b, o + m.toNat * z, none⟩) (len - m.toNat) (cap - m.toNat)) := by
  have hne : ¬ cap = m.toNat := by omega
  have h2' : (len : Int) ≤ cap := by omega
  simp only [sliV, numO, Option.bind_some, h0, h1, h2', and_self, if_true, if_neg hne, Option.map_some, add_at, Int.toNat_natCast]
theorem sliV_slice_hi (e z b o len cap : Nat) (q' : IntKind) (n : Int) (h1 : 0 ≤ n) (h2 : n ≤ cap) (h3 : 0 < cap) : sliV (.slice e z) (.slice (some ⟨b, o, none⟩) len cap) none (some (.int q' n)) = some (.slice (some ⟨b, o, none⟩) n.toNat cap) := by
  have hne : ¬ cap = 0 := by omega
  simp only [sliV, numO, Option.bind_some, Int.le_refl, h1, h2, and_self, if_true, Int.toNat_zero, if_neg hne, Option.map_some, add_at, Nat.zero_mul, Nat.add_zero, Nat.sub_zero]
attribute [go_sem] sliV_slice sliV_slice_lo sliV_slice_hi

/-- append(v, x...), x a row of cells at the head of the list. -/
theorem RRun_append_cells {P : Program} {t ty e e' : TypeId} {z b : Nat} {d : Option Nat} {ops rest : List Oper} {s : List Kn} {f : Fr} {h h' : List Res} {Q : Exit → Fr → List Res → Prop} {v : Value} {n : Nat} {xs : List Value} {g m c : Nat} {cs : List Value} (ht : slT P t e z b)
    (hh : ∀ w, Sat w (.cells g e' cs.toArray :: h) → Sat w (Own e z v n xs :: h')) (hl : cs.length = m * z) (h1 : ∀ u ∈ cs, u.oneCell' = true) (hbytes : (n + m) * b ≤ 140737488355328) (h63 : n + m ≤ maxLen)
    (hk : ∀ a' c', n + m ≤ c' → RL P ops rest s (put f d (.slice a' (n + m) c')) (Own e z (.slice a' (n + m) c') (n + m) (xs ++ cs) :: h') Q) :
    RRun P (sAppend #[t, t] ty #[v, .slice (some ⟨g, 0, none⟩) m c]) ⟨d, ops, rest, s⟩ f (.cells g e' cs.toArray :: h) Q := by
  refine RRun_append cs ht hh hl (fun w hw j u hu => ?_) h1 hbytes h63 hk
  rw [cell_cells hw.1 rfl, if_pos rfl, Nat.zero_add]
  simpa using hu
/-- A slice of one struct. -/
theorem RRun_build1z {P : Program} {t e : TypeId} {z b : Nat} {d : Option Nat} {ops rest : List Oper} {s : List Kn} {f : Fr} {h : List Res} {Q : Exit → Fr → List Res → Prop} {cs : List Value} (ht : slT P t e z b) (hz : cs.length = z) (hz2 : z ≤ 16777216)
    (hk : ∀ g, below g h → RL P ops rest s (put f d (.slice (some ⟨g, 0, none⟩) 1 1)) (.cells g e cs.toArray :: h) Q) : RRun P (sBuild t 1 #[(0, .agg cs.toArray)]) ⟨d, ops, rest, s⟩ f h Q := by
  refine RRun_build (cs.toArray) ht (by omega) (by omega) (fun zs hzs => ?_) hk
  have hb : ∀ (l : List Value) (zs : List Value) (k : Nat), k + l.length = zs.length → (l.zipIdx k).foldl (fun (cs : Array Value) (x : Value × Nat) => cs.setIfInBounds x.2 x.1) zs.toArray = (zs.take k ++ l).toArray := by
    intro l
    induction l with
    | nil => intro zs k hk; simp at hk; simp [hk]
    | cons c l ih =>
      intro zs k hk
      simp only [List.length_cons] at hk
      rw [List.zipIdx_cons, List.foldl_cons, List.setIfInBounds_toArray, ih _ _ (by simp; omega)]
      congr 1
      have hm : min k zs.length = k := by omega
      have hkl : k < zs.length := by omega
      rw [List.set_eq_take_append_cons_drop, if_pos hkl, List.take_append, List.length_take, hm, List.take_take, show min (k + 1) k = k by omega, Nat.add_sub_cancel_left, List.take_succ_cons, List.take_zero, List.append_assoc]
      rfl
  obtain ⟨zl, rfl⟩ : ∃ zl : List Value, zs = zl.toArray := ⟨zs.toList, by simp⟩
  have := hb cs zl 0 (by simp at hzs; omega)
  unfold Instr.fill
  have hcs : (Value.agg cs.toArray).cells = cs.toArray := rfl
  have hzs' : zl.length = z := by simpa using hzs
  simp only [Nat.zero_mul, hcs, List.size_toArray, hz, ne_eq, not_true_eq_false, decide_false, Bool.false_or, Nat.zero_add, gt_iff_lt, hzs', Nat.lt_irrefl, Bool.false_eq_true, if_false]
  unfold Instr.fill
  congr 1
  rw [← Array.foldl_toList, Array.toList_zipIdx]
  simpa using this
/-- An empty slice. -/
theorem RRun_build0 {P : Program} {t e : TypeId} {z b : Nat} {d : Option Nat} {ops rest : List Oper} {s : List Kn} {f : Fr} {h : List Res} {Q : Exit → Fr → List Res → Prop} (ht : slT P t e z b)
    (hk : ∀ g, below g h → RL P ops rest s (put f d (.slice (some ⟨g, 0, none⟩) 0 0)) (Own e z (.slice (some ⟨g, 0, none⟩) 0 0) 0 [] :: h) Q) : RRun P (sBuild t 0 #[]) ⟨d, ops, rest, s⟩ f h Q := by
  intro w hw
  obtain ⟨i, zv, ht1, ht2, ht3, hz, hb, hzs, h0⟩ := ht
  refine ⟨_, w.alloc (.cells #[] e), _, ?_, ?_, hk w.heap.size hw.below⟩
  · simp [sBuild, Instr.buildSlice, run_underlying ht1, sizeOf, typeInfo, ht2, newRow, Instr.fill]
    congr 2
    exact Array.eq_empty_of_size_eq_zero (by simp)
  · refine ⟨⟨by simp, .inr ⟨w.heap.size, 0, #[], rfl, Nat.zero_le _, by simpa using heap_alloc_new w (.cells #[] e), Nat.le_refl _, Nat.zero_le _, by simp, by simp⟩⟩, fun k hk => ?_, fun r' hr' k hk hk' => ?_, hw.ext (Ext.alloc w _)⟩
    · have : some w.heap.size = some k := hk
      injection this with this
      subst this
      simp
    · have : some w.heap.size = some k := hk
      injection this with this
      subst this
      exact absurd (hw.lt r' hr' _ hk') (Nat.lt_irrefl _)
/-- The parts of a slice literal, each in its place. -/
def partsOf (vs : List Value) : Array (Nat × Value) := (vs.zipIdx.map fun x => (x.2, x.1)).toArray
theorem fill_parts {z : Nat} : ∀ (vs : List Value) (k : Nat) (pre rest : List Value), (∀ v ∈ vs, v.cells.size = z) → pre.length = k * z → rest.length = vs.length * z →
    Instr.fill (fun i => some (i * z, z)) (pre ++ rest).toArray ((vs.zipIdx k).map fun x => (x.2, x.1)) = some (pre ++ vs.flatMap fun v => v.cells.toList).toArray
  | [], k, pre, rest, _, _, hr => by
    have : rest = [] := List.eq_nil_of_length_eq_zero (by simpa using hr)
    subst this
    simp [Instr.fill]
  | v :: vs, k, pre, rest, hz, hp, hr => by
    have hvz := hz v (by simp)
    have hrl : rest.length = z + vs.length * z := by rw [hr, List.length_cons, Nat.succ_mul]; omega
    have hb : ∀ (l : List Value) (p q r : List Value) (j : Nat), q.length = l.length → p.length = k * z + j → (l.zipIdx j).foldl (fun (cs : Array Value) (x : Value × Nat) => cs.setIfInBounds (k * z + x.2) x.1) (p ++ q ++ r).toArray = (p ++ l ++ r).toArray := by
      intro l
      induction l with
      | nil => intro p q r j hq _; have : q = [] := List.eq_nil_of_length_eq_zero (by simpa using hq); subst this; simp
      | cons c l ih =>
        intro p q r j hq hp
        obtain ⟨q0, q1, rfl⟩ : ∃ a b, q = a :: b := by cases q with | nil => simp at hq | cons a b => exact ⟨a, b, rfl⟩
        rw [List.zipIdx_cons, List.foldl_cons, List.setIfInBounds_toArray]
        have e : (p ++ q0 :: q1 ++ r).set (k * z + j) c = (p ++ [c]) ++ q1 ++ r := by
          rw [List.append_assoc, List.set_append_right _ _ (by omega), hp, Nat.sub_self, List.cons_append, List.set_cons_zero]; simp
        rw [e, ih (p ++ [c]) q1 r (j + 1) (by simpa using hq) (by simp [hp]; omega)]
        simp
    rw [List.zipIdx_cons, List.map_cons]
    unfold Instr.fill
    have h1 : ¬ (k * z + z > (pre ++ rest).toArray.size) := by simp; omega
    simp only [hvz, ne_eq, not_true_eq_false, decide_false, Bool.false_or, decide_eq_true_eq, h1, if_false]
    have hfold := hb v.cells.toList pre (rest.take z) (rest.drop z) 0 (by simp [hvz]; omega) (by simpa using hp)
    rw [List.append_assoc, List.take_append_drop] at hfold
    rw [← Array.foldl_toList, Array.toList_zipIdx, hfold]
    rw [fill_parts vs (k + 1) (pre ++ v.cells.toList) (rest.drop z) (fun u hu => hz u (by simp [hu])) (by simp [hp, hvz, Nat.succ_mul]) (by simp [hrl])]
    simp
/-- A slice of some elements, each of z cells. -/
theorem RRun_buildz {P : Program} {t e : TypeId} {z b n : Nat} {parts : Array (Nat × Value)} {d : Option Nat} {ops rest : List Oper} {s : List Kn} {f : Fr} {h : List Res} {Q : Exit → Fr → List Res → Prop} (vs : List Value) (cs : List Value) (ht : slT P t e z b) (hp : parts = partsOf vs) (hn : vs.length = n) (h0 : 0 < n)
    (hz : ∀ v ∈ vs, v.cells.size = z) (hcs : (vs.flatMap fun v => v.cells.toList) = cs) (hz2 : n * z ≤ 16777216)
    (hk : ∀ g, below g h → RL P ops rest s (put f d (.slice (some ⟨g, 0, none⟩) n n)) (.cells g e cs.toArray :: h) Q) : RRun P (sBuild t n parts) ⟨d, ops, rest, s⟩ f h Q := by
  subst hp hn hcs
  refine RRun_build _ ht h0 hz2 (fun zs hzs => ?_) hk
  have := fill_parts vs 0 [] zs.toList hz (by simp) (by simpa using hzs)
  simpa [partsOf] using this
/-- A call whose answer is known by what is known of the world. -/
theorem RCall_eqS {P : Program} {k : FuncId} {args : Array Value} {d : Option Nat} {ops rest : List Oper} {s : List Kn} {f : Fr} {h : List Res} {Q : Exit → Fr → List Res → Prop} {u : Value}
    (c : ∀ w, Sat w h → Does P k args w fun v w' => v = u ∧ Ext [] w w') (hk : RL P ops rest s (put f d u) h Q) : RCall P k args ⟨d, ops, rest, s⟩ f h Q :=
  RCall_of (φ := fun v => v = u) c fun _ e => by rw [e]; exact hk
theorem run_append0 {P : Program} (w : World) {t ty e : TypeId} {z b : Nat} (ht : slT P t e z b) (a a2 : Option Addr) (n c c2 : Nat) (hn : n ≤ c) : (Builtin.append_ #[t, t] ty #[.slice a n c, .slice a2 0 c2]).run P w = .ok (.slice a n c) w := by
  obtain ⟨i, zv, ht1, ht2, _⟩ := ht
  cases a <;> cases a2 <;> simp [Builtin.append_, run_underlying ht1, sizeOf, typeInfo, ht2, Builtin.lenOf, Builtin.firstCells, loadCells, loadCellsFrom, hn, storeCells]
/-- append(v, x...), x any slice that reads so. -/
theorem RRun_append_rd {P : Program} {t ty e : TypeId} {z b : Nat} {d : Option Nat} {ops rest : List Oper} {s : List Kn} {f : Fr} {h h' : List Res} {Q : Exit → Fr → List Res → Prop} {a a2 : Option Addr} {n c m c2 : Nat} {xs : List Value} (g : Nat → List Value) (ht : slT P t e z b)
    (hh : ∀ w, Sat w h → Sat w (Own e z (.slice a n c) n xs :: h')) (hr : ∀ w, Sat w h → Rd w a2 m z g) (hgl : ∀ i, i < m → (g i).length = z) (h1 : ∀ u ∈ flat m g, u.oneCell' = true) (hnc : n ≤ c) (hbytes : (n + m) * b ≤ 140737488355328) (h63 : n + m ≤ maxLen)
    (hk : ∀ a' c', n + m ≤ c' → RL P ops rest s (put f d (.slice a' (n + m) c')) (Own e z (.slice a' (n + m) c') (n + m) (xs ++ flat m g) :: h') Q) :
    RRun P (sAppend #[t, t] ty #[.slice a n c, .slice a2 m c2]) ⟨d, ops, rest, s⟩ f h Q := by
  intro w hw
  rcases Nat.eq_zero_or_pos m with rfl | hm
  · refine ⟨_, w, _, run_append0 w ht a a2 n c c2 hnc, hh w hw, ?_⟩
    have := hk a c (by omega)
    rw [flat_zero, List.append_nil] at this
    exact this
  · have hrw := hr w hw
    obtain ⟨b', o, rfl, _⟩ := hrw hm
    have hz : 0 < z := by obtain ⟨_, _, _, _, _, _, _, _, hz⟩ := ht; exact hz
    exact RRun_append (flat m g) ht hh (flat_len hgl) (fun w hw => (hr w hw).cells hz) h1 hbytes h63 hk w hw
section
variable (e : TypeId) (z : Nat) (v : Value) (n : Nat) (xs : List Value) (h : List Res)
theorem look_own (ad : Addr) : look ad (Own e z v n xs :: h) = look ad h := rfl
theorem lookN_own (ad : Addr) (m : Nat) : lookN ad m (Own e z v n xs :: h) = lookN ad m h := rfl
theorem hset_own (ad : Addr) (u : Value) : hset ad u (Own e z v n xs :: h) = (hset ad u h).map (Own e z v n xs :: ·) := rfl
end
attribute [go_sem] look_own lookN_own hset_own
end H
end Go.Proofs.Ytldidoaagijnhaa
