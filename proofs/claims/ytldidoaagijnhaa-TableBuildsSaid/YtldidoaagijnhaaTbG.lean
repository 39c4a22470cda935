/- table: the walks: a row read. table: the walk: the classes read. Tables, as plain functions: a table read. -/
import Derived.Test.YtldidoaagijnhaaTbD
namespace Go.Proofs.Ytldidoaagijnhaa
set_option linter.unusedSimpArgs false
set_option linter.unusedVariables false
open H
namespace Tb
/-- Some states from a place on. -/
def rowGo (s : List UInt8) : Nat → Int → Bool → List Int → List Int × Int × Bool
  | 0, a, wh, acc => (acc, a, wh)
  | k + 1, a, wh, acc => rowGo s k (num s 999 a wh).2.1 (num s 999 a wh).2.2 (acc ++ [(num s 999 a wh).1])
end Tb
def RowLeft (t : TypeId) (s : List UInt8) (k : Nat) (a : Int) (wh : Bool) (g7 : Nat) (v : Value) (rs : List Res) : Prop :=
  ∃ a' c', v = .slice a' k c' ∧ k ≤ c' ∧ (Tb.rowGo s k a wh []).1.length = k ∧ rs = [Own 3 1 (.slice a' k c') k (iv (Tb.rowGo s k a wh []).1), .cells g7 t #[str s, .int .i64 (Tb.rowGo s k a wh []).2.1, .bool (!(Tb.rowGo s k a wh []).2.2)]]
theorem iv_snoc (l : List Int) (x : Int) : iv l ++ [.int .i64 x] = iv (l ++ [x]) := by simp [iv]
set_option maxRecDepth 20000 in
set_option maxHeartbeats 1000000 in
theorem tb_row (s : List UInt8) (hsl : s.length ≤ 1000000) (k : Nat) (hk : k ≤ 1000) (a : Int) (wh : Bool) (ha : 0 ≤ a ∧ a ≤ s.length) (g7 : Nat) (w : World)
    (hs0 : Sat w [.cells g7 92 #[str s, .int .i64 a, .bool (!wh)], .anchor w [g7]]) :
    Does Try.prog 75 #[.pointer (some ⟨g7, 0, none⟩), .int .i64 (k : Int)] w fun v w' => ∃ rs, Sat w' (rs ++ [.anchor w [g7]]) ∧ RowLeft 92 s k a wh g7 v rs := by
  refine does (args := [.pointer (some ⟨g7, 0, none⟩), .int .i64 (k : Int)]) Try.func75 rfl (by kernel_rfl) (by kernel_rfl) rfl ent_75 (hs0) ?_; intro QV hQ
  simp -implicitDefEqProofs (disch := omega) only [go_sem]
  refine RLoop_from (fun f h => ∃ (j : Nat) (x : Int) (b : Bool) (acc : List Int) (a' : Option Addr) (c' : Nat), j ≤ k ∧ j ≤ c' ∧ acc.length = j ∧ 0 ≤ x ∧ x ≤ s.length ∧ Tb.rowGo s (k - j) x b acc = Tb.rowGo s k a wh [] ∧ f 0 = .pointer (some ⟨g7, 0, none⟩) ∧ f 5 = .slice a' j c' ∧ f 6 = .int .i64 (k : Int) ∧ f 7 = .int .i64 (j : Int) ∧
    h = [Own 3 1 (.slice a' j c') j (iv acc), .cells g7 92 #[str s, .int .i64 x, .bool (!b)], .anchor w [g7]]) (fun f _ => (k - ival (f 7)).toNat) ?_ ?_
  · exact fun w1 hs => ⟨_, hs.own_nil 3 1, 0, a, wh, [], none, 0, by omega, by omega, rfl, ha.1, ha.2, rfl, by (first | (simp -implicitDefEqProofs (disch := omega) only [go_sem]; done) | (simp -implicitDefEqProofs (disch := omega) only [go_sem]; rfl)), by (first | (simp -implicitDefEqProofs (disch := omega) only [go_sem]; done) | (simp -implicitDefEqProofs (disch := omega) only [go_sem]; rfl)), by (first | (simp -implicitDefEqProofs (disch := omega) only [go_sem]; done) | (simp -implicitDefEqProofs (disch := omega) only [go_sem]; rfl)), by (first | (simp -implicitDefEqProofs (disch := omega) only [go_sem]; done) | (simp -implicitDefEqProofs (disch := omega) only [go_sem]; rfl)), rfl⟩
  rintro f h ⟨j, x, b, acc, a', c', hj, hjc, hal, hx0, hx1, hgo, e0, e5, e6, e7, rfl⟩ Q' hQ'
  have hmj : ival (f 7) = (j : Int) := by rw [e7]; rfl
  by_cases hjl : j < k
  · have j0 : (j : Int) < (k : Int) := by omega
    rw [show k - j = (k - (j + 1)) + 1 by omega, Tb.rowGo] at hgo
    obtain ⟨n1, n2, n3, n4, n5⟩ := Tb.num_in s 999 x b hx0 hx1
    simp -implicitDefEqProofs (disch := omega) only [go_sem, e0, e5, e6, e7, j0, decide_true]
    refine RCall_frame [.cells g7 92 #[str s, .int .i64 x, .bool (!b)]] [Own 3 1 (.slice a' j c') j (iv acc), .anchor w [g7]] [g7] (fun _ hs => Sat.swap2 hs) (by simp [Res.fp]) (fun w1 hs => tb_num s (by omega) 999 x b (by omega) g7 w1 (hs.reanchors (by simp [Res.fp]))) ?_
    rintro _ _ ⟨rfl, rfl⟩
    generalize Tb.num s 999 x b = y at *
    obtain ⟨y, x2, b2⟩ := y
    simp only [] at n1 n2 n3 n4 n5 hgo ⊢
    simp -implicitDefEqProofs (disch := omega) only [go_sem, e0, e5, e6, e7]
    refine RRun_buildz [.int .i64 y] (iv [y]) tints_sl rfl rfl (by decide) (fun v hv => by
      simp only [List.mem_cons, List.not_mem_nil, or_false] at hv
      subst hv; rfl) rfl (by decide) fun gx hgx => ?_
    simp -implicitDefEqProofs (disch := omega) only [go_sem, e0, e5, e6, e7]
    refine RRun_append_cells (n := j) (xs := iv acc) (m := 1) tints_sl (fun _ hs => Sat.swap2 hs.2.2.2) rfl (fun u hu => by
      simp only [iv, List.map_cons, List.map_nil, List.mem_singleton] at hu
      subst hu; rfl) (by omega) (by simp only [maxLen]; omega) fun a'' c'' hc'' => ?_
    simp -implicitDefEqProofs (disch := omega) only [go_sem, e0, e5, e6, e7]
    refine hQ' _ _ fun w1 hs => ⟨_, hs, ⟨j + 1, x2, b2, acc ++ [y], a'', c'', by omega, hc'', by rw [List.length_append, List.length_singleton, hal], by omega, n5, hgo, ?_, ?_, ?_, ?_, by rw [← iv_snoc]; rfl⟩, ?_⟩
    · (first | (simp -implicitDefEqProofs (disch := omega) only [go_sem, e0, e5, e6, e7]; done) | (simp -implicitDefEqProofs (disch := omega) only [go_sem, e0, e5, e6, e7]; rfl))
    · (first | (simp -implicitDefEqProofs (disch := omega) only [go_sem, e0, e5, e6, e7]; done) | (simp -implicitDefEqProofs (disch := omega) only [go_sem, e0, e5, e6, e7]; rfl))
    · (first | (simp -implicitDefEqProofs (disch := omega) only [go_sem, e0, e5, e6, e7]; done) | (simp -implicitDefEqProofs (disch := omega) only [go_sem, e0, e5, e6, e7]; rfl))
    · (first | (simp -implicitDefEqProofs (disch := omega) only [go_sem, e0, e5, e6, e7]; done) | (simp -implicitDefEqProofs (disch := omega) only [go_sem, e0, e5, e6, e7]; rfl))
    · simp -implicitDefEqProofs (disch := omega) only [go_sem, e0, e5, e6, e7, hmj]; omega
  · have j0 : ¬ (j : Int) < (k : Int) := by omega
    obtain rfl : j = k := by omega
    rw [Nat.sub_self, Tb.rowGo] at hgo
    simp -implicitDefEqProofs (disch := omega) only [go_sem, e0, e5, e6, e7, j0, decide_false]
    refine hQ _ _ fun w' hs => ⟨_, ?_, a', c', rfl, hjc, by rw [← hgo]; exact hal, rfl⟩
    rw [← hgo]
    exact hs
open H
namespace Tb
/-- The classes from a place on: what is set, where, and whether all was there. -/
def clsRead (s : List UInt8) : Nat → Nat → Int → Bool → (Nat → Int) → (Nat → Int) × Int × Bool
  | 0, _, a, wh, F => (F, a, wh)
  | m + 1, c, a, wh, F =>
    if c < 256 ∧ wh = true then
      if (num s (256 - (c : Int)) (num s 255 a true).2.1 (num s 255 a true).2.2).2.2 = true ∧ (num s (256 - (c : Int)) (num s 255 a true).2.1 (num s 255 a true).2.2).1 ≠ 0 then
        clsRead s m (c + (num s (256 - (c : Int)) (num s 255 a true).2.1 (num s 255 a true).2.2).1.toNat) (num s (256 - (c : Int)) (num s 255 a true).2.1 (num s 255 a true).2.2).2.1 true
          (fun i => if c ≤ i ∧ i < c + (num s (256 - (c : Int)) (num s 255 a true).2.1 (num s 255 a true).2.2).1.toNat then (num s 255 a true).1 else F i)
      else (F, (num s (256 - (c : Int)) (num s 255 a true).2.1 (num s 255 a true).2.2).2.1, false)
    else (F, a, wh)
end Tb
theorem hsetN_vals (g : Nat) (t : TypeId) (F G : Nat → Int) (h : List Res) : hsetN ⟨g, 0, none⟩ (vals 256 (intsV F .i64)) 0 (.cells g t (List.toArray (vals 256 (intsV G .i64))) :: h) = some (.cells g t (List.toArray (vals 256 (intsV F .i64))) :: h) := by
  have := hsetN_at (g := g) (t := t) 0 (vals 256 (intsV F .i64)) 0 (List.toArray (vals 256 (intsV G .i64))) h (fun v hv => by
    unfold vals at hv
    obtain ⟨i, _, rfl⟩ := List.mem_map.1 hv
    rfl) (by simp [vals_len])
  rw [this]
  simp only [Nat.add_zero, List.take_zero, List.nil_append, vals_len]
  rw [List.drop_eq_nil_of_le (by simp [vals_len]), List.append_nil]
theorem vals_all (F : Nat → Value) : (List.toArray (vals 256 F)).extract 0 256 = List.toArray (vals 256 F) := by
  apply Array.ext'
  rw [Array.toList_extract, List.extract_eq_take_drop]
  simp only [List.drop_zero, Nat.sub_zero, List.toList_toArray]
  exact List.take_of_length_le (by rw [vals_len]; omega)
theorem vals_put (F : Nat → Int) (k : Nat) (x : Int) : (vals 256 (intsV F .i64)).set k (.int .i64 x) = vals 256 (intsV (fun i => if i = k then x else F i) .i64) := vals_set 256 _ _ k _ (by simp [intsV]) fun i hi => by simp [intsV, hi]
def ClsLeft (t : TypeId) (s : List UInt8) (a : Int) (wh : Bool) (g7 : Nat) (v : Value) (rs : List Res) : Prop :=
  ∃ F a' wh', Tb.clsRead s 257 0 a wh (fun _ => 0) = (F, a', wh') ∧ v = .agg (List.toArray (vals 256 (intsV F .i64))) ∧ rs = [.cells g7 t #[str s, .int .i64 a', .bool (!wh')]]
theorem zero_arr : zeroT Try.prog 44 = some (.agg (List.toArray (vals 256 (intsV (fun _ => 0) .i64)))) := by kernel_rfl
set_option maxRecDepth 20000 in
set_option maxHeartbeats 2000000 in
theorem tb_classes (s : List UInt8) (hsl : s.length ≤ 1000000) (a : Int) (wh : Bool) (ha : 0 ≤ a ∧ a ≤ s.length) (g7 : Nat) (w : World)
    (hs0 : Sat w [.cells g7 92 #[str s, .int .i64 a, .bool (!wh)], .anchor w [g7]]) :
    Does Try.prog 74 #[.pointer (some ⟨g7, 0, none⟩)] w fun v w' => ∃ rs, Sat w' (rs ++ [.anchor w [g7]]) ∧ ClsLeft 92 s a wh g7 v rs := by
  refine does (args := [.pointer (some ⟨g7, 0, none⟩)]) Try.func74 rfl (by kernel_rfl) (by kernel_rfl) rfl ent_74 (hs0) ?_; intro QV hQ
  simp -implicitDefEqProofs (disch := omega) only [go_sem, zero_arr]
  refine RNew_intro fun g2 hg2 => ?_
  have n72 : g7 ≠ g2 := Nat.ne_of_lt hg2.1
  simp -implicitDefEqProofs (disch := omega) only [go_sem, zero_arr]
  refine RNew_intro fun gc hgc => ?_
  have n2c : g2 ≠ gc := Nat.ne_of_lt hgc.1
  have n7c : g7 ≠ gc := Nat.ne_of_lt hgc.2.1
  simp -implicitDefEqProofs (disch := omega) only [go_sem]
  refine RLoop_from (fun f h => ∃ (m c : Nat) (x : Int) (b : Bool) (F : Nat → Int), c ≤ 256 ∧ 257 ≤ m + c ∧ 0 ≤ x ∧ x ≤ s.length ∧ Tb.clsRead s m c x b F = Tb.clsRead s 257 0 a wh (fun _ => 0) ∧ f 0 = .pointer (some ⟨g7, 0, none⟩) ∧ f 2 = .pointer (some ⟨g2, 0, none⟩) ∧ f 3 = .pointer (some ⟨gc, 0, none⟩) ∧ f 4 = .int .i64 (c : Int) ∧
    h = [.cells g7 92 #[str s, .int .i64 x, .bool (!b)], .cells gc 44 (List.toArray (vals 256 (intsV F .i64))), .cells g2 44 (List.toArray (vals 256 (intsV (fun _ => 0) .i64))), .anchor w [g7]]) (fun f _ => (256 - ival (f 4)).toNat) ?_ ?_
  · exact fun w1 hs => ⟨_, Sat.perm (List.perm_middle (l₁ := [_, _])) hs, 257, 0, a, wh, _, by omega, by omega, ha.1, ha.2, rfl, by (first | (simp -implicitDefEqProofs (disch := omega) only [go_sem]; done) | (simp -implicitDefEqProofs (disch := omega) only [go_sem]; rfl)), by (first | (simp -implicitDefEqProofs (disch := omega) only [go_sem]; done) | (simp -implicitDefEqProofs (disch := omega) only [go_sem]; rfl)), by (first | (simp -implicitDefEqProofs (disch := omega) only [go_sem]; done) | (simp -implicitDefEqProofs (disch := omega) only [go_sem]; rfl)), by (first | (simp -implicitDefEqProofs (disch := omega) only [go_sem]; done) | (simp -implicitDefEqProofs (disch := omega) only [go_sem]; rfl)), rfl⟩
  rintro f h ⟨m, c, x, b, F, hc, hmc, hx0, hx1, hgo, e0, e2, e3, e4, rfl⟩ Q' hQ'
  have hmi : ival (f 4) = (c : Int) := by rw [e4]; rfl
  obtain ⟨m, rfl⟩ : ∃ k, m = k + 1 := ⟨m - 1, by omega⟩
  rw [Tb.clsRead] at hgo
  by_cases hcl : c < 256
  rotate_left
  · have c0 : decide ((c : Int) < 256) = false := decide_eq_false (by omega)
    rw [if_neg (fun h => hcl h.1)] at hgo
    simp -implicitDefEqProofs (disch := omega) only [go_sem, e0, e2, e3, e4, c0]
    simp -implicitDefEqProofs (disch := omega) only [go_sem, e0, e2, e3, e4, n7c, n72, Ne.symm n72, Ne.symm n7c, n2c, Ne.symm n2c, hsetN_ne, hsetN_vals, vals_len, vals_all, List.toList_toArray, List.size_toArray]
    exact hQ _ _ fun w' hs => ⟨[_], Sat.sub (.cons_cons _ (.cons _ (.cons _ (List.Sublist.refl _)))) hs, _, _, _, hgo.symm, rfl, rfl⟩
  have c0 : decide ((c : Int) < 256) = true := decide_eq_true (by omega)
  cases b with
  | false =>
    rw [if_neg (by simp)] at hgo
    simp -implicitDefEqProofs (disch := omega) only [go_sem, e0, e2, e3, e4, c0, Bool.not_false, Bool.not_true]
    simp -implicitDefEqProofs (disch := omega) only [go_sem, e0, e2, e3, e4, n7c, n72, Ne.symm n72, Ne.symm n7c, n2c, Ne.symm n2c, hsetN_ne, hsetN_vals, vals_len, vals_all, List.toList_toArray, List.size_toArray]
    exact hQ _ _ fun w' hs => ⟨[_], Sat.sub (.cons_cons _ (.cons _ (.cons _ (List.Sublist.refl _)))) hs, _, _, _, hgo.symm, rfl, rfl⟩
  | true =>
    rw [if_pos ⟨hcl, rfl⟩] at hgo
    simp -implicitDefEqProofs (disch := omega) only [go_sem, e0, e2, e3, e4, c0, Bool.not_false, Bool.not_true]
    refine RCall_frame [.cells g7 92 #[str s, .int .i64 x, .bool (!true)]] [.cells gc 44 (List.toArray (vals 256 (intsV F .i64))), .cells g2 44 (List.toArray (vals 256 (intsV (fun _ => 0) .i64))), .anchor w [g7]] [g7] (fun _ hs => hs) (by simp [Res.fp]) (fun w1 hs => tb_num s (by omega) 255 x true (by omega) g7 w1 (hs.reanchors (by simp [Res.fp]))) ?_
    rintro _ _ ⟨rfl, rfl⟩
    obtain ⟨p1, p2, p3, p4, p5⟩ := Tb.num_in s 255 x true hx0 hx1
    generalize Tb.num s 255 x true = y at *
    obtain ⟨k, xa, b1⟩ := y
    simp only [] at p1 p2 p3 p4 p5 hgo ⊢
    simp -implicitDefEqProofs (disch := omega) only [go_sem, e0, e2, e3, e4]
    refine RCall_frame [.cells g7 92 #[str s, .int .i64 xa, .bool (!b1)]] [.cells gc 44 (List.toArray (vals 256 (intsV F .i64))), .cells g2 44 (List.toArray (vals 256 (intsV (fun _ => 0) .i64))), .anchor w [g7]] [g7] (fun _ hs => hs) (by simp [Res.fp]) (fun w1 hs => tb_num s (by omega) (256 - (c : Int)) xa b1 (by omega) g7 w1 (hs.reanchors (by simp [Res.fp]))) ?_
    rintro _ _ ⟨rfl, rfl⟩
    obtain ⟨q1, q2, q3, q4, q5⟩ := Tb.num_in s (256 - (c : Int)) xa b1 (by omega) p5
    generalize Tb.num s (256 - (c : Int)) xa b1 = y at *
    obtain ⟨n, xb, b2⟩ := y
    simp only [] at q1 q2 q3 q4 q5 hgo ⊢
    obtain ⟨n, rfl⟩ : ∃ k : Nat, n = (k : Int) := ⟨n.toNat, by omega⟩
    by_cases hgood : b2 = true ∧ (n : Int) ≠ 0
    rotate_left
    · rw [if_neg hgood] at hgo
      have hd : b2 = false ∨ (b2 = true ∧ decide ((n : Int) = 0) = true) := by
        cases b2 with
        | false => exact .inl rfl
        | true => exact .inr ⟨rfl, decide_eq_true (Decidable.byContradiction fun h => hgood ⟨rfl, h⟩)⟩
      rcases hd with rfl | ⟨rfl, hd⟩
      · simp -implicitDefEqProofs (disch := omega) only [go_sem, e0, e2, e3, e4, Bool.not_false]
        simp -implicitDefEqProofs (disch := omega) only [go_sem, e0, e2, e3, e4, n7c, n72, Ne.symm n72, Ne.symm n7c, n2c, Ne.symm n2c, hsetN_ne, hsetN_vals, vals_len, vals_all, List.toList_toArray, List.size_toArray]
        exact hQ _ _ fun w' hs => ⟨[_], Sat.sub (.cons_cons _ (.cons _ (.cons _ (List.Sublist.refl _)))) hs, _, _, _, hgo.symm, rfl, rfl⟩
      · simp -implicitDefEqProofs (disch := omega) only [go_sem, e0, e2, e3, e4, Bool.not_true, hd]
        simp -implicitDefEqProofs (disch := omega) only [go_sem, e0, e2, e3, e4, n7c, n72, Ne.symm n72, Ne.symm n7c, n2c, Ne.symm n2c, hsetN_ne, hsetN_vals, vals_len, vals_all, List.toList_toArray, List.size_toArray]
        exact hQ _ _ fun w' hs => ⟨[_], Sat.sub (.cons_cons _ (.cons _ (.cons _ (List.Sublist.refl _)))) hs, _, _, _, hgo.symm, rfl, rfl⟩
    obtain ⟨rfl, hn0⟩ := hgood
    rw [if_pos ⟨rfl, hn0⟩, Int.toNat_natCast] at hgo
    have hd : decide ((n : Int) = 0) = false := decide_eq_false hn0
    simp -implicitDefEqProofs (disch := omega) only [go_sem, e0, e2, e3, e4, Bool.not_true, hd]
    have hcn : c + n ≤ 256 := by omega
    refine RLoop_from (fun f h => ∃ (j : Nat) (G : Nat → Int), j ≤ n ∧ (∀ i, G i = if c ≤ i ∧ i < c + j then k else F i) ∧ f 0 = .pointer (some ⟨g7, 0, none⟩) ∧ f 2 = .pointer (some ⟨g2, 0, none⟩) ∧ f 3 = .pointer (some ⟨gc, 0, none⟩) ∧ f 4 = .int .i64 ((c + j : Nat) : Int) ∧ f 5 = .int .i64 k ∧ f 37 = .int .i64 (n : Int) ∧ f 38 = .int .i64 (j : Int) ∧
      h = [.cells g7 92 #[str s, .int .i64 xb, .bool false], .cells gc 44 (List.toArray (vals 256 (intsV G .i64))), .cells g2 44 (List.toArray (vals 256 (intsV (fun _ => 0) .i64))), .anchor w [g7]]) (fun f _ => (n - ival (f 38)).toNat) ?_ ?_
    · exact fun w1 hs => ⟨_, hs, 0, F, by omega, fun i => by rw [if_neg (by omega)], by (first | (simp -implicitDefEqProofs (disch := omega) only [go_sem, e0, e2, e3, e4]; done) | (simp -implicitDefEqProofs (disch := omega) only [go_sem, e0, e2, e3, e4]; rfl)), by (first | (simp -implicitDefEqProofs (disch := omega) only [go_sem, e0, e2, e3, e4]; done) | (simp -implicitDefEqProofs (disch := omega) only [go_sem, e0, e2, e3, e4]; rfl)), by (first | (simp -implicitDefEqProofs (disch := omega) only [go_sem, e0, e2, e3, e4]; done) | (simp -implicitDefEqProofs (disch := omega) only [go_sem, e0, e2, e3, e4]; rfl)), by (first | (simp -implicitDefEqProofs (disch := omega) only [go_sem, e0, e2, e3, e4]; done) | (simp -implicitDefEqProofs (disch := omega) only [go_sem, e0, e2, e3, e4]; rfl)), by (first | (simp -implicitDefEqProofs (disch := omega) only [go_sem, e0, e2, e3, e4]; done) | (simp -implicitDefEqProofs (disch := omega) only [go_sem, e0, e2, e3, e4]; rfl)), by (first | (simp -implicitDefEqProofs (disch := omega) only [go_sem, e0, e2, e3, e4]; done) | (simp -implicitDefEqProofs (disch := omega) only [go_sem, e0, e2, e3, e4]; rfl)), by (first | (simp -implicitDefEqProofs (disch := omega) only [go_sem, e0, e2, e3, e4]; done) | (simp -implicitDefEqProofs (disch := omega) only [go_sem, e0, e2, e3, e4]; rfl)), rfl⟩
    clear e0 e2 e3 e4
    rintro f h ⟨j, G, hj, hG, e0, e2, e3, e4, e5, e37, e38, rfl⟩ Q2 hQ2
    have hmj : ival (f 38) = (j : Int) := by rw [e38]; rfl
    by_cases hjl : j < n
    · have j0 : decide ((j : Int) < (n : Int)) = true := decide_eq_true (by omega)
      have j1 : ((c + j : Nat) : Int) < 256 := by omega
      have j2 : c + j < 256 := by omega
      simp -implicitDefEqProofs (disch := omega) only [go_sem, e0, e2, e3, e4, e5, e37, e38, j0, j1, j2, vals_put, n7c, Ne.symm n7c]
      refine hQ2 _ _ fun w1 hs => ⟨_, hs, ⟨j + 1, _, by omega, fun i => ?_, ?_, ?_, ?_, ?_, ?_, ?_, ?_, rfl⟩, ?_⟩
      · show (if i = c + j then k else G i) = _
        rw [hG i]
        by_cases h1 : i = c + j
        · rw [if_pos h1, if_pos (by omega)]
        · rw [if_neg h1]
          by_cases h2 : c ≤ i ∧ i < c + j
          · rw [if_pos h2, if_pos (by omega)]
          · rw [if_neg h2, if_neg (by omega)]
      · (first | (simp -implicitDefEqProofs (disch := omega) only [go_sem, e0, e2, e3, e4, e5, e37, e38]; done) | (simp -implicitDefEqProofs (disch := omega) only [go_sem, e0, e2, e3, e4, e5, e37, e38]; rfl))
      · (first | (simp -implicitDefEqProofs (disch := omega) only [go_sem, e0, e2, e3, e4, e5, e37, e38]; done) | (simp -implicitDefEqProofs (disch := omega) only [go_sem, e0, e2, e3, e4, e5, e37, e38]; rfl))
      · (first | (simp -implicitDefEqProofs (disch := omega) only [go_sem, e0, e2, e3, e4, e5, e37, e38]; done) | (simp -implicitDefEqProofs (disch := omega) only [go_sem, e0, e2, e3, e4, e5, e37, e38]; rfl))
      · (first | (simp -implicitDefEqProofs (disch := omega) only [go_sem, e0, e2, e3, e4, e5, e37, e38]; done) | (simp -implicitDefEqProofs (disch := omega) only [go_sem, e0, e2, e3, e4, e5, e37, e38]; rfl))
      · (first | (simp -implicitDefEqProofs (disch := omega) only [go_sem, e0, e2, e3, e4, e5, e37, e38]; done) | (simp -implicitDefEqProofs (disch := omega) only [go_sem, e0, e2, e3, e4, e5, e37, e38]; rfl))
      · (first | (simp -implicitDefEqProofs (disch := omega) only [go_sem, e0, e2, e3, e4, e5, e37, e38]; done) | (simp -implicitDefEqProofs (disch := omega) only [go_sem, e0, e2, e3, e4, e5, e37, e38]; rfl))
      · (first | (simp -implicitDefEqProofs (disch := omega) only [go_sem, e0, e2, e3, e4, e5, e37, e38]; done) | (simp -implicitDefEqProofs (disch := omega) only [go_sem, e0, e2, e3, e4, e5, e37, e38]; rfl))
      · simp -implicitDefEqProofs (disch := omega) only [go_sem, e0, e2, e3, e4, e5, e37, e38, hmj]; omega
    · have j0 : decide ((j : Int) < (n : Int)) = false := decide_eq_false (by omega)
      obtain rfl : j = n := by omega
      obtain rfl : G = fun i => if c ≤ i ∧ i < c + j then k else F i := funext hG
      simp -implicitDefEqProofs (disch := omega) only [go_sem, e0, e2, e3, e4, e5, e37, e38, j0]
      refine hQ' _ _ fun w1 hs => ⟨_, hs, ⟨m, c + j, xb, true, _, by omega, by omega, by omega, q5, hgo, ?_, ?_, ?_, ?_, rfl⟩, ?_⟩
      · (first | (simp -implicitDefEqProofs (disch := omega) only [go_sem, e0, e2, e3, e4, e5, e37, e38]; done) | (simp -implicitDefEqProofs (disch := omega) only [go_sem, e0, e2, e3, e4, e5, e37, e38]; rfl))
      · (first | (simp -implicitDefEqProofs (disch := omega) only [go_sem, e0, e2, e3, e4, e5, e37, e38]; done) | (simp -implicitDefEqProofs (disch := omega) only [go_sem, e0, e2, e3, e4, e5, e37, e38]; rfl))
      · (first | (simp -implicitDefEqProofs (disch := omega) only [go_sem, e0, e2, e3, e4, e5, e37, e38]; done) | (simp -implicitDefEqProofs (disch := omega) only [go_sem, e0, e2, e3, e4, e5, e37, e38]; rfl))
      · (first | (simp -implicitDefEqProofs (disch := omega) only [go_sem, e0, e2, e3, e4, e5, e37, e38]; done) | (simp -implicitDefEqProofs (disch := omega) only [go_sem, e0, e2, e3, e4, e5, e37, e38]; rfl))
      · simp -implicitDefEqProofs (disch := omega) only [go_sem, e0, e2, e3, e4, e5, e37, e38, hmi]; omega
namespace Tb
/-- Rows from a place on, as long as all was there. -/
def rowsGo (s : List UInt8) (cl : Nat) : Nat → Int → Bool → List (List Int) → List (List Int) × Int × Bool
  | 0, a, wh, acc => (acc, a, wh)
  | m + 1, a, wh, acc => if wh = true then rowsGo s cl m (rowGo s cl a true []).2.1 (rowGo s cl a true []).2.2 (acc ++ [(rowGo s cl a true []).1]) else (acc, a, false)
def kNum (s : List UInt8) (n : Nat) (a : Int) : Int × Int × Bool := num s ((n : Int) - 1) a true
def rNum (s : List UInt8) (n : Nat) (a : Int) : Int × Int × Bool := num s 32 (kNum s n a).2.1 (kNum s n a).2.2
/-- States from a place on: each one's row and rule. -/
def statesGo (s : List UInt8) (rows : List (List Int)) : Nat → Int → List (List Int) → List Int → Option (List (List Int) × List Int)
  | 0, _, nx, ru => some (nx, ru)
  | m + 1, a, nx, ru => if (rNum s rows.length a).2.2 = true then statesGo s rows m (rNum s rows.length a).2.1 (nx ++ [rows.getD (kNum s rows.length a).1.toNat []]) (ru ++ [(rNum s rows.length a).1 - 1]) else none
def st0 (s : List UInt8) : Int × Int × Bool := num s 1000 4 true
def cl0 (s : List UInt8) : Int × Int × Bool := num s 256 (st0 s).2.1 (st0 s).2.2
def C0 (s : List UInt8) : (Nat → Int) × Int × Bool := clsRead s 257 0 (cl0 s).2.1 (cl0 s).2.2 fun _ => 0
def n0 (s : List UInt8) : Int × Int × Bool := num s 1000 (C0 s).2.1 (C0 s).2.2
def R0 (s : List UInt8) : List (List Int) × Int × Bool := rowsGo s (cl0 s).1.toNat (n0 s).1.toNat (n0 s).2.1 (n0 s).2.2 []
/-- The automaton that bytes say. -/
def readD (s : List UInt8) : Option ((Nat → Int) × List (List Int) × List Int) := if (R0 s).2.2 = true then (statesGo s (R0 s).1 (st0 s).1.toNat (R0 s).2.1 [] []).map fun x => ((C0 s).1, x.1, x.2) else none
theorem num_true {s : List UInt8} {most a : Int} {wh : Bool} (h : (num s most a wh).2.2 = true) : wh = true ∧ (num s most a wh).1 ≤ most := by
  unfold num at *
  split at h
  · rename_i hc; rw [if_pos hc]; exact ⟨hc.1, hc.2.2⟩
  · cases h
theorem rowGo_in (s : List UInt8) : ∀ (k : Nat) (a : Int) (wh : Bool) (acc : List Int), 0 ≤ a → a ≤ s.length → (∀ n ∈ acc, 0 ≤ n ∧ n ≤ 999) →
    0 ≤ (rowGo s k a wh acc).2.1 ∧ (rowGo s k a wh acc).2.1 ≤ s.length ∧ (rowGo s k a wh acc).1.length = acc.length + k ∧ ∀ n ∈ (rowGo s k a wh acc).1, 0 ≤ n ∧ n ≤ 999
  | 0, a, wh, acc, h0, h1, h2 => ⟨h0, h1, rfl, h2⟩
  | k + 1, a, wh, acc, h0, h1, h2 => by
    rw [rowGo]
    obtain ⟨n1, n2, n3, n4, n5⟩ := num_in s 999 a wh h0 h1
    obtain ⟨i1, i2, i3, i4⟩ := rowGo_in s k (num s 999 a wh).2.1 (num s 999 a wh).2.2 (acc ++ [(num s 999 a wh).1]) (by omega) n5 (fun n hn => by
      rcases List.mem_append.1 hn with hn | hn
      · exact h2 n hn
      · obtain rfl := List.mem_singleton.1 hn
        omega)
    exact ⟨i1, i2, by rw [i3, List.length_append, List.length_singleton]; omega, i4⟩
theorem rowsGo_in (s : List UInt8) (cl : Nat) : ∀ (m : Nat) (a : Int) (wh : Bool) (acc : List (List Int)), 0 ≤ a → a ≤ s.length → (∀ r ∈ acc, r.length = cl ∧ ∀ n ∈ r, 0 ≤ n ∧ n ≤ 999) →
    0 ≤ (rowsGo s cl m a wh acc).2.1 ∧ (rowsGo s cl m a wh acc).2.1 ≤ s.length ∧ (rowsGo s cl m a wh acc).1.length ≤ acc.length + m ∧ ((rowsGo s cl m a wh acc).2.2 = true → (rowsGo s cl m a wh acc).1.length = acc.length + m) ∧ ∀ r ∈ (rowsGo s cl m a wh acc).1, r.length = cl ∧ ∀ n ∈ r, 0 ≤ n ∧ n ≤ 999
  | 0, a, wh, acc, h0, h1, h2 => ⟨h0, h1, Nat.le_refl _, fun _ => rfl, h2⟩
  | m + 1, a, wh, acc, h0, h1, h2 => by
    rw [rowsGo]
    split
    · obtain ⟨r1, r2, r3, r4⟩ := rowGo_in s cl a true [] h0 h1 (by simp)
      obtain ⟨i1, i2, i3, i5, i4⟩ := rowsGo_in s cl m (rowGo s cl a true []).2.1 (rowGo s cl a true []).2.2 (acc ++ [(rowGo s cl a true []).1]) r1 r2 (fun r hr => by
        rcases List.mem_append.1 hr with hr | hr
        · exact h2 r hr
        · obtain rfl := List.mem_singleton.1 hr
          exact ⟨by rw [r3]; simp, r4⟩)
      rw [List.length_append, List.length_singleton] at i3 i5
      exact ⟨i1, i2, by omega, fun h => by rw [i5 h]; omega, i4⟩
    · exact ⟨h0, h1, by simp, fun h => by simp at h, h2⟩
theorem clsRead_in (s : List UInt8) : ∀ (m c : Nat) (a : Int) (wh : Bool) (F : Nat → Int), 0 ≤ a → a ≤ s.length → (∀ i, 0 ≤ F i ∧ F i ≤ 255) →
    0 ≤ (clsRead s m c a wh F).2.1 ∧ (clsRead s m c a wh F).2.1 ≤ s.length ∧ ∀ i, 0 ≤ (clsRead s m c a wh F).1 i ∧ (clsRead s m c a wh F).1 i ≤ 255
  | 0, c, a, wh, F, h0, h1, h2 => ⟨h0, h1, h2⟩
  | m + 1, c, a, wh, F, h0, h1, h2 => by
    rw [clsRead]
    split
    · obtain ⟨p1, p2, p3, p4, p5⟩ := num_in s 255 a true h0 h1
      obtain ⟨q1, q2, q3, q4, q5⟩ := num_in s (256 - (c : Int)) (num s 255 a true).2.1 (num s 255 a true).2.2 (by omega) p5
      split
      · refine clsRead_in s m _ _ _ _ (by omega) q5 fun i => ?_
        split
        · omega
        · exact h2 i
      · exact ⟨by simp only []; omega, q5, h2⟩
    · exact ⟨h0, h1, h2⟩
theorem hdr_in (s : List UInt8) (h4 : 4 ≤ s.length) : (0 ≤ (st0 s).1 ∧ (st0 s).1 ≤ 1000 ∧ 0 ≤ (st0 s).2.1 ∧ (st0 s).2.1 ≤ s.length) ∧ (0 ≤ (cl0 s).1 ∧ (cl0 s).1 ≤ 256 ∧ 0 ≤ (cl0 s).2.1 ∧ (cl0 s).2.1 ≤ s.length) ∧
    (0 ≤ (C0 s).2.1 ∧ (C0 s).2.1 ≤ s.length ∧ ∀ i, 0 ≤ (C0 s).1 i ∧ (C0 s).1 i ≤ 255) ∧ (0 ≤ (n0 s).1 ∧ (n0 s).1 ≤ 1000 ∧ 0 ≤ (n0 s).2.1 ∧ (n0 s).2.1 ≤ s.length) := by
  obtain ⟨a1, a2, a3, a4, a5⟩ := num_in s 1000 4 true (by omega) (by omega)
  have e1 : st0 s = num s 1000 4 true := rfl
  rw [← e1] at a1 a2 a3 a4 a5
  obtain ⟨b1, b2, b3, b4, b5⟩ := num_in s 256 (st0 s).2.1 (st0 s).2.2 (by omega) a5
  have e2 : cl0 s = num s 256 (st0 s).2.1 (st0 s).2.2 := rfl
  rw [← e2] at b1 b2 b3 b4 b5
  obtain ⟨c1, c2, c3⟩ := clsRead_in s 257 0 (cl0 s).2.1 (cl0 s).2.2 (fun _ => 0) (by omega) b5 (fun i => by simp)
  have e3 : C0 s = clsRead s 257 0 (cl0 s).2.1 (cl0 s).2.2 fun _ => 0 := rfl
  rw [← e3] at c1 c2 c3
  obtain ⟨d1, d2, d3, d4, d5⟩ := num_in s 1000 (C0 s).2.1 (C0 s).2.2 c1 c2
  have e4 : n0 s = num s 1000 (C0 s).2.1 (C0 s).2.2 := rfl
  rw [← e4] at d1 d2 d3 d4 d5
  exact ⟨⟨by omega, by omega, by omega, by omega⟩, ⟨by omega, by omega, by omega, by omega⟩, ⟨c1, c2, c3⟩, by omega, by omega, by omega, by omega⟩
theorem R0_in (s : List UInt8) (h4 : 4 ≤ s.length) : 0 ≤ (R0 s).2.1 ∧ (R0 s).2.1 ≤ s.length ∧ (R0 s).1.length ≤ 1000 ∧ ((R0 s).2.2 = true → ((R0 s).1.length : Int) = (n0 s).1) ∧ ∀ r ∈ (R0 s).1, r.length = (cl0 s).1.toNat ∧ ∀ n ∈ r, 0 ≤ n ∧ n ≤ 999 := by
  obtain ⟨_, _, _, d1, d2, d3, d4⟩ := hdr_in s h4
  obtain ⟨i1, i2, i3, i5, i4⟩ := rowsGo_in s (cl0 s).1.toNat (n0 s).1.toNat (n0 s).2.1 (n0 s).2.2 [] d3 d4 (by simp)
  have e : R0 s = rowsGo s (cl0 s).1.toNat (n0 s).1.toNat (n0 s).2.1 (n0 s).2.2 [] := rfl
  rw [← e] at i1 i2 i3 i4 i5
  rw [List.length_nil] at i3 i5
  exact ⟨i1, i2, by omega, fun h => by have := i5 h; omega, i4⟩
end Tb
end Go.Proofs.Ytldidoaagijnhaa
