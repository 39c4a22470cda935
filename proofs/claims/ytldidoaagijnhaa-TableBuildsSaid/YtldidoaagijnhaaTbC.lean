/- table: the walk: the different rows. -/
import Derived.Test.YtldidoaagijnhaaTbA
import Derived.Test.YtldidoaagijnhaaTbM
import Derived.Test.YtldidoaagijnhaaMap
import Derived.Test.YtldidoaagijnhaaMany
import Derived.Test.YtldidoaagijnhaaDfaLY4
namespace Go.Proofs.Ytldidoaagijnhaa
set_option linter.unusedSimpArgs false
set_option linter.unusedVariables false
open H
theorem tintss_sl : slT Try.prog 45 46 1 24 := slT_of (by kernel_rfl)
theorem tzero_int : zeroT Try.prog 3 = some (.int .i64 0) := by kernel_rfl
theorem iv_len (l : List Int) : (iv l).length = l.length := by simp [iv]
theorem iv_get (l : List Int) (k : Nat) (h : k < l.length) : (iv l)[k]? = some (.int .i64 (l.getD k 0)) := by simp [iv, List.getD_eq_getElem?_getD, List.getElem?_eq_getElem h]
theorem iv_set (l : List Int) (k : Nat) (x : Int) : (iv l).set k (.int .i64 x) = iv (l.set k x) := by simp [iv, List.map_set]
theorem made_ints (n : Nat) : Go.madeCells (Value.int .i64 0).cells n = (List.toArray (iv (List.replicate n 0))) := by
  apply Array.ext'
  have h := Go.toList_madeCells_one (Value.int .i64 0) n
  rw [show (Value.int .i64 0).cells = #[Value.int .i64 0] from rfl, h]
  simp [iv]
theorem set_rep {which : List Int} {N i : Nat} (hw : which.length = i) (hi : i < N) (k : Int) : (which ++ List.replicate (N - i) 0).set i k = (which ++ [k]) ++ List.replicate (N - (i + 1)) 0 := by
  rw [show N - i = (N - (i + 1)) + 1 by omega, List.replicate_succ, List.set_append_right _ _ (by omega), hw, Nat.sub_self, List.set_cons_zero, List.append_assoc]; rfl
theorem flat_ints (r : List Int) : flat r.length (Dfa.ints r) = iv r := by
  unfold Dfa.ints
  rw [flat_ofL]
  induction r with
  | nil => rfl
  | cons x r ih => rw [List.flatMap_cons, ih]; rfl
theorem rows_snoc {n : Nat} {rows : List (List Int)} (hn : n = rows.length) (r : List Int) : (fun k => if k = n then iv r else iv (rows.getD k [])) = fun k => iv ((rows ++ [r]).getD k []) := by
  funext k
  by_cases h : k = n
  · rw [if_pos h, h, hn, List.getD_eq_getElem?_getD, List.getElem?_append_right (Nat.le_refl _)]; simp
  · rw [if_neg h]
    rcases Nat.lt_or_ge k n with hl | hg
    · rw [List.getD_eq_getElem?_getD, List.getD_eq_getElem?_getD, List.getElem?_append_left (by omega)]
    · rw [List.getD_eq_getElem?_getD, List.getD_eq_getElem?_getD, List.getElem?_eq_none (by omega), List.getElem?_eq_none (by simp; omega)]
theorem range_snoc (n : Nat) (vs : Nat → Value) (v : Value) : (List.range (n + 1)).map (fun k => if k = n then v else vs k) = (List.range n).map vs ++ [v] := by
  rw [List.range_succ, List.map_append, List.map_singleton, if_pos rfl]
  congr 1
  refine List.map_congr_left fun k hk => ?_
  rw [if_neg (by have := List.mem_range.1 hk; omega)]
/-- The different rows, handed back. -/
def NewRows (n : Nat) (v : Value) (rs : List Res) (rows : List (List Int)) (which : List Int) : Prop :=
  ∃ ao co gw vs, v = .tuple #[.slice ao rows.length co, .slice (some ⟨gw, 0, none⟩) n n] ∧ rows.length ≤ co ∧ which.length = n ∧
    rs = [Own 46 1 (.slice ao rows.length co) rows.length ((List.range rows.length).map vs), .cells gw 3 (List.toArray (iv which)), RowsOwn 3 (fun k => k < rows.length) vs (fun k => iv (rows.getD k []))]
attribute [go_sem] iv_len iv_get iv_set
set_option maxRecDepth 20000 in
set_option maxHeartbeats 4000000 in
theorem tb_rows (d : Dfa.D) (hR : Dfa.Right d) (w : World) (hm : Dfa.Mem w d) : Does Try.prog 27 #[d.val] w fun v w' => ∃ rs, Sat w' (rs ++ [.anchor w []]) ∧ NewRows d.next.length v rs (Tb.rowsW d.next).1 (Tb.rowsW d.next).2 := by
  unfold Dfa.D.val
  refine does (args := [.agg (List.toArray (Dfa.dC (Dfa.clsV d) (.slice d.a d.next.length d.c) (.slice d.ar d.rules.length d.cr)))]) Try.func27 rfl (by kernel_rfl) (by kernel_rfl) rfl ent_27 (Sat.start w []) ?_; intro QV hQ
  simp -implicitDefEqProofs (disch := omega) only [go_sem]
  refine RNew_intro fun g1 hg1 => ?_
  have hg1' : w.heap.size ≤ g1 := hg1.1
  simp -implicitDefEqProofs (disch := omega) only [go_sem]
  refine RCall_eqS (fun w1 hs => by have := dfa_right d w1 (hm.keep (hs.anchor (by simp))); unfold Dfa.D.val at this; exact this) ?_
  have hn1 : 1 ≤ d.next.length := hR.1
  have hn2 : d.next.length ≤ 1000 := hR.2.1
  simp -implicitDefEqProofs (disch := omega) only [go_sem, hR, decide_true]
  refine RRun_make tints_sl tzero_int (by omega) (by omega) fun gw hgw => ?_
  rw [Nat.mul_one, made_ints]
  have nw1 : g1 ≠ gw := Nat.ne_of_lt hgw.1
  simp -implicitDefEqProofs (disch := omega) only [go_sem]
  refine RRun_makeMap (k := 9) (e := 3) fun gm hgm => ?_
  simp -implicitDefEqProofs (disch := omega) only [go_sem]
  refine RLoop_from (fun f h => ∃ (i : Nat) (ao : Option Addr) (co n : Nat) (vs : Nat → Value) (rows : List (List Int)) (which : List Int), i ≤ d.next.length ∧ Tb.rowsW (d.next.take i) = (rows, which) ∧ n = rows.length ∧ n ≤ co ∧ which.length = i ∧ n ≤ i ∧
    f 1 = .pointer (some ⟨g1, 0, none⟩) ∧ f 4 = .slice ao n co ∧ f 5 = .slice (some ⟨gw, 0, none⟩) d.next.length d.next.length ∧ f 6 = .map (some gm) ∧ f 23 = .slice d.a d.next.length d.c ∧ f 24 = .int .i64 (d.next.length : Int) ∧ f 25 = .int .i64 (i : Int) ∧
    h = [RowsOwn 3 (fun k => k < n) vs (fun k => iv (rows.getD k [])), Own 46 1 (.slice ao n co) n ((List.range n).map vs), Mp Try.prog 9 3 gm n (Tb.look rows), .cells gw 3 (List.toArray (iv (which ++ List.replicate (d.next.length - i) 0))), .anchor w []]) (fun f _ => (d.next.length - ival (f 25)).toNat) ?_ ?_
  · refine fun w1 hs => ⟨[RowsOwn 3 (fun k => k < 0) (fun _ => .slice none 0 0) (fun k => iv (([] : List (List Int)).getD k [])), Own 46 1 (.slice none 0 0) 0 ((List.range 0).map fun _ => .slice none 0 0), Mp Try.prog 9 3 gm 0 (Tb.look []), .cells gw 3 (List.toArray (iv ([] ++ List.replicate (d.next.length - 0) 0))), .anchor w []], ?_, 0, none, 0, 0, fun _ => .slice none 0 0, [], [], by omega, rfl, rfl, by omega, rfl, by omega, by (first | (simp -implicitDefEqProofs (disch := omega) only [go_sem]; done) | (simp -implicitDefEqProofs (disch := omega) only [go_sem]; rfl)), by (first | (simp -implicitDefEqProofs (disch := omega) only [go_sem]; done) | (simp -implicitDefEqProofs (disch := omega) only [go_sem]; rfl)), by (first | (simp -implicitDefEqProofs (disch := omega) only [go_sem]; done) | (simp -implicitDefEqProofs (disch := omega) only [go_sem]; rfl)), by (first | (simp -implicitDefEqProofs (disch := omega) only [go_sem]; done) | (simp -implicitDefEqProofs (disch := omega) only [go_sem]; rfl)), by (first | (simp -implicitDefEqProofs (disch := omega) only [go_sem]; done) | (simp -implicitDefEqProofs (disch := omega) only [go_sem]; rfl)), by (first | (simp -implicitDefEqProofs (disch := omega) only [go_sem]; done) | (simp -implicitDefEqProofs (disch := omega) only [go_sem]; rfl)), by (first | (simp -implicitDefEqProofs (disch := omega) only [go_sem]; done) | (simp -implicitDefEqProofs (disch := omega) only [go_sem]; rfl)), rfl⟩
    have hl : Tb.look [] = fun _ => none := by funext s; exact Tb.look_nil s
    rw [hl]
    exact Sat.rows_nil 3 _ ((Sat.sub (.cons_cons _ (.cons_cons _ (.cons _ (List.Sublist.refl _)))) hs).own_nil 46 1)
  rintro f h ⟨i, ao, co, n, vs, rows, which, hi, hrw, hn, hco, hwl, hni, e1, e4, e5, e6, e23, e24, e25, rfl⟩ Q' hQ'
  have hmi : ival (f 25) = (i : Int) := by rw [e25]; rfl
  by_cases hil : i < d.next.length
  rotate_left
  · have g0 : ¬ (i : Int) < (d.next.length : Int) := by omega
    obtain rfl : i = d.next.length := by omega
    rw [List.take_length] at hrw
    rw [hrw] at hQ
    subst hn
    simp -implicitDefEqProofs (disch := omega) only [go_sem, e1, e4, e5, e6, e23, e24, e25, g0, decide_false]
    rw [Nat.sub_self, List.replicate_zero, List.append_nil]
    refine hQ _ _ fun w' hs => ⟨_, ?_, ao, co, gw, vs, rfl, hco, hwl, rfl⟩
    exact Sat.perm (List.perm_middle (l₁ := [_, _])).symm (Sat.sub (.cons_cons _ (.cons_cons _ (.cons _ (List.Sublist.refl _)))) hs)
  have g0 : (i : Int) < (d.next.length : Int) := by omega
  obtain ⟨b, o, hda, hb, hc⟩ := Dfa.next_at hm i hil
  have hbw : b ≠ gw := by have : w.heap.size ≤ gw := hgw.2.1; omega
  have hrok := hR.2.2.2.2 i hil
  have hpl : Tb.Plain (Dfa.row d i) := Tb.right_plain hR _ (by unfold Dfa.row; rw [List.getD_eq_getElem?_getD, List.getElem?_eq_getElem hil]; exact List.getElem_mem _)
  have hrl : (Dfa.row d i).length ≤ 256 := by
    have := (Dfa.classes_ok d hR.2.2.2.1).2.1
    have := hrok.2.2.1
    omega
  have hrd : Rd w (d.ra i) (Dfa.row d i).length 1 (Dfa.ints (Dfa.row d i)) := hm.rows i hil
  have hsucc : d.next.take (i + 1) = d.next.take i ++ [Dfa.row d i] := Dfa.take_succ d.next [] i hil
  have hallp : ∀ x ∈ rows, Tb.Plain x := fun x hx => Tb.right_plain hR x (List.mem_of_mem_take ((Tb.rowsOf (d.next.take i)).mem x (by rw [hrw]; exact hx)))
  rw [hda] at e23
  generalize hrow : Dfa.row d i = r at *
  simp -implicitDefEqProofs (disch := omega) only [go_sem, e1, e4, e5, e6, e23, e24, e25, g0, hc, hbw, decide_true]
  generalize hH : [RowsOwn 3 (fun k => k < n) vs (fun k => iv (rows.getD k [])), Own 46 1 (.slice ao n co) n ((List.range n).map vs), Mp Try.prog 9 3 gm n (Tb.look rows), .cells gw 3 (List.toArray (iv (which ++ List.replicate (d.next.length - i) 0))), .anchor w []] = H at *
  have hHa : Res.anchor w [] ∈ H := by rw [← hH]; simp
  refine RLoop_intro (fun f h => ∃ (j : Nat), j ≤ r.length ∧ f 1 = .pointer (some ⟨g1, 0, none⟩) ∧ f 4 = .slice ao n co ∧ f 5 = .slice (some ⟨gw, 0, none⟩) d.next.length d.next.length ∧ f 6 = .map (some gm) ∧ f 7 = .int .i64 (i : Int) ∧ f 8 = .slice (d.ra i) r.length (d.rc i) ∧ f 9 = str (Tb.putS (r.take j)) ∧ f 23 = .slice (some ⟨b, o, none⟩) d.next.length d.c ∧ f 24 = .int .i64 (d.next.length : Int) ∧ f 25 = .int .i64 (i : Int) ∧ f 30 = .slice (d.ra i) r.length (d.rc i) ∧ f 31 = .int .i64 (r.length : Int) ∧ f 32 = .int .i64 (j : Int) ∧ h = H) (fun f _ => (r.length - ival (f 32)).toNat) ?_ ?_
  · exact ⟨0, by omega, by (first | (simp -implicitDefEqProofs (disch := omega) only [go_sem, e1, e4, e5, e6, e23, e24, e25]; done) | (simp -implicitDefEqProofs (disch := omega) only [go_sem, e1, e4, e5, e6, e23, e24, e25]; rfl)), by (first | (simp -implicitDefEqProofs (disch := omega) only [go_sem, e1, e4, e5, e6, e23, e24, e25]; done) | (simp -implicitDefEqProofs (disch := omega) only [go_sem, e1, e4, e5, e6, e23, e24, e25]; rfl)), by (first | (simp -implicitDefEqProofs (disch := omega) only [go_sem, e1, e4, e5, e6, e23, e24, e25]; done) | (simp -implicitDefEqProofs (disch := omega) only [go_sem, e1, e4, e5, e6, e23, e24, e25]; rfl)), by (first | (simp -implicitDefEqProofs (disch := omega) only [go_sem, e1, e4, e5, e6, e23, e24, e25]; done) | (simp -implicitDefEqProofs (disch := omega) only [go_sem, e1, e4, e5, e6, e23, e24, e25]; rfl)), by (first | (simp -implicitDefEqProofs (disch := omega) only [go_sem, e1, e4, e5, e6, e23, e24, e25]; done) | (simp -implicitDefEqProofs (disch := omega) only [go_sem, e1, e4, e5, e6, e23, e24, e25]; rfl)), by (first | (simp -implicitDefEqProofs (disch := omega) only [go_sem, e1, e4, e5, e6, e23, e24, e25]; done) | (simp -implicitDefEqProofs (disch := omega) only [go_sem, e1, e4, e5, e6, e23, e24, e25]; rfl)), by (first | (simp -implicitDefEqProofs (disch := omega) only [go_sem, e1, e4, e5, e6, e23, e24, e25]; done) | (simp -implicitDefEqProofs (disch := omega) only [go_sem, e1, e4, e5, e6, e23, e24, e25]; rfl)), by (first | (simp -implicitDefEqProofs (disch := omega) only [go_sem, e1, e4, e5, e6, e23, e24, e25]; done) | (simp -implicitDefEqProofs (disch := omega) only [go_sem, e1, e4, e5, e6, e23, e24, e25]; rfl)), by (first | (simp -implicitDefEqProofs (disch := omega) only [go_sem, e1, e4, e5, e6, e23, e24, e25]; done) | (simp -implicitDefEqProofs (disch := omega) only [go_sem, e1, e4, e5, e6, e23, e24, e25]; rfl)), by (first | (simp -implicitDefEqProofs (disch := omega) only [go_sem, e1, e4, e5, e6, e23, e24, e25]; done) | (simp -implicitDefEqProofs (disch := omega) only [go_sem, e1, e4, e5, e6, e23, e24, e25]; rfl)), by (first | (simp -implicitDefEqProofs (disch := omega) only [go_sem, e1, e4, e5, e6, e23, e24, e25]; done) | (simp -implicitDefEqProofs (disch := omega) only [go_sem, e1, e4, e5, e6, e23, e24, e25]; rfl)), by (first | (simp -implicitDefEqProofs (disch := omega) only [go_sem, e1, e4, e5, e6, e23, e24, e25]; done) | (simp -implicitDefEqProofs (disch := omega) only [go_sem, e1, e4, e5, e6, e23, e24, e25]; rfl)), by (first | (simp -implicitDefEqProofs (disch := omega) only [go_sem, e1, e4, e5, e6, e23, e24, e25]; done) | (simp -implicitDefEqProofs (disch := omega) only [go_sem, e1, e4, e5, e6, e23, e24, e25]; rfl)), rfl⟩
  clear e1 e4 e5 e6 e23 e24 e25
  rintro f h ⟨j, hj, e1, e4, e5, e6, e7, e8, e9, e23, e24, e25, e30, e31, e32, rfl⟩ Q2 hQ2
  subst hH
  have hmj : ival (f 32) = (j : Int) := by rw [e32]; rfl
  by_cases hjl : j < r.length
  · have j0 : (j : Int) < (r.length : Int) := by omega
    obtain ⟨b2, o2, hra, hb2, hc2⟩ := Dfa.ints_at hrd j hjl
    have hbw2 : b2 ≠ gw := by have : w.heap.size ≤ gw := hgw.2.1; omega
    have hx := hpl (r.getD j 0) (by rw [List.getD_eq_getElem?_getD, List.getElem?_eq_getElem hjl]; exact List.getElem_mem _)
    have htk : Tb.putS (r.take (j + 1)) = Tb.putS (r.take j) ++ Tb.putS [r.getD j 0] := by rw [Dfa.take_succ r 0 j hjl, Tb.putS_append]
    have hl1 := Tb.putS_len (r.take j) fun n hn => (hpl n (List.mem_of_mem_take hn)).2
    rw [List.length_take] at hl1
    generalize r.getD j 0 = x at *
    have hl2 := Tb.putS_len [x] (by simp; omega)
    simp only [List.length_cons, List.length_nil] at hl2
    rw [hra] at e30
    simp -implicitDefEqProofs (disch := omega) only [go_sem, e1, e4, e5, e6, e7, e8, e9, e23, e24, e25, e30, e31, e32, j0, hc2, hbw2, decide_true]
    refine RRun_buildz [.int .i64 x] (iv [x]) tints_sl rfl rfl (by decide) (fun v hv => by
      simp only [List.mem_cons, List.not_mem_nil, or_false] at hv
      subst hv; rfl) rfl (by decide) fun gx hgx => ?_
    simp -implicitDefEqProofs (disch := omega) only [go_sem, e1, e4, e5, e6, e7, e8, e9, e23, e24, e25, e30, e31, e32]
    refine RCall_eqS (fun w1 hs => tb_put [x] (some ⟨gx, 0, none⟩) 1 (by simp) (by simp [Tb.In64]; omega) w1 (iv_rd (t := 3) hs List.mem_cons_self)) ?_
    simp -implicitDefEqProofs (disch := omega) only [go_sem, e1, e4, e5, e6, e7, e8, e9, e23, e24, e25, e30, e31, e32]
    refine hQ2 _ _ _ (fun _ hs => hs.2.2.2) ⟨j + 1, by omega, ?_, ?_, ?_, ?_, ?_, ?_, ?_, ?_, ?_, ?_, ?_, ?_, ?_, rfl⟩ ?_
    · (first | (simp -implicitDefEqProofs (disch := omega) only [go_sem, e1, e4, e5, e6, e7, e8, e9, e23, e24, e25, e30, e31, e32]; done) | (simp -implicitDefEqProofs (disch := omega) only [go_sem, e1, e4, e5, e6, e7, e8, e9, e23, e24, e25, e30, e31, e32]; rfl))
    · (first | (simp -implicitDefEqProofs (disch := omega) only [go_sem, e1, e4, e5, e6, e7, e8, e9, e23, e24, e25, e30, e31, e32]; done) | (simp -implicitDefEqProofs (disch := omega) only [go_sem, e1, e4, e5, e6, e7, e8, e9, e23, e24, e25, e30, e31, e32]; rfl))
    · (first | (simp -implicitDefEqProofs (disch := omega) only [go_sem, e1, e4, e5, e6, e7, e8, e9, e23, e24, e25, e30, e31, e32]; done) | (simp -implicitDefEqProofs (disch := omega) only [go_sem, e1, e4, e5, e6, e7, e8, e9, e23, e24, e25, e30, e31, e32]; rfl))
    · (first | (simp -implicitDefEqProofs (disch := omega) only [go_sem, e1, e4, e5, e6, e7, e8, e9, e23, e24, e25, e30, e31, e32]; done) | (simp -implicitDefEqProofs (disch := omega) only [go_sem, e1, e4, e5, e6, e7, e8, e9, e23, e24, e25, e30, e31, e32]; rfl))
    · (first | (simp -implicitDefEqProofs (disch := omega) only [go_sem, e1, e4, e5, e6, e7, e8, e9, e23, e24, e25, e30, e31, e32]; done) | (simp -implicitDefEqProofs (disch := omega) only [go_sem, e1, e4, e5, e6, e7, e8, e9, e23, e24, e25, e30, e31, e32]; rfl))
    · (first | (simp -implicitDefEqProofs (disch := omega) only [go_sem, e1, e4, e5, e6, e7, e8, e9, e23, e24, e25, e30, e31, e32]; done) | (simp -implicitDefEqProofs (disch := omega) only [go_sem, e1, e4, e5, e6, e7, e8, e9, e23, e24, e25, e30, e31, e32]; rfl))
    · rw [htk]; (first | (simp -implicitDefEqProofs (disch := omega) only [go_sem, e1, e4, e5, e6, e7, e8, e9, e23, e24, e25, e30, e31, e32]; done) | (simp -implicitDefEqProofs (disch := omega) only [go_sem, e1, e4, e5, e6, e7, e8, e9, e23, e24, e25, e30, e31, e32]; rfl))
    · (first | (simp -implicitDefEqProofs (disch := omega) only [go_sem, e1, e4, e5, e6, e7, e8, e9, e23, e24, e25, e30, e31, e32]; done) | (simp -implicitDefEqProofs (disch := omega) only [go_sem, e1, e4, e5, e6, e7, e8, e9, e23, e24, e25, e30, e31, e32]; rfl))
    · (first | (simp -implicitDefEqProofs (disch := omega) only [go_sem, e1, e4, e5, e6, e7, e8, e9, e23, e24, e25, e30, e31, e32]; done) | (simp -implicitDefEqProofs (disch := omega) only [go_sem, e1, e4, e5, e6, e7, e8, e9, e23, e24, e25, e30, e31, e32]; rfl))
    · (first | (simp -implicitDefEqProofs (disch := omega) only [go_sem, e1, e4, e5, e6, e7, e8, e9, e23, e24, e25, e30, e31, e32]; done) | (simp -implicitDefEqProofs (disch := omega) only [go_sem, e1, e4, e5, e6, e7, e8, e9, e23, e24, e25, e30, e31, e32]; rfl))
    · rw [hra]; (first | (simp -implicitDefEqProofs (disch := omega) only [go_sem, e1, e4, e5, e6, e7, e8, e9, e23, e24, e25, e30, e31, e32]; done) | (simp -implicitDefEqProofs (disch := omega) only [go_sem, e1, e4, e5, e6, e7, e8, e9, e23, e24, e25, e30, e31, e32]; rfl))
    · (first | (simp -implicitDefEqProofs (disch := omega) only [go_sem, e1, e4, e5, e6, e7, e8, e9, e23, e24, e25, e30, e31, e32]; done) | (simp -implicitDefEqProofs (disch := omega) only [go_sem, e1, e4, e5, e6, e7, e8, e9, e23, e24, e25, e30, e31, e32]; rfl))
    · (first | (simp -implicitDefEqProofs (disch := omega) only [go_sem, e1, e4, e5, e6, e7, e8, e9, e23, e24, e25, e30, e31, e32]; done) | (simp -implicitDefEqProofs (disch := omega) only [go_sem, e1, e4, e5, e6, e7, e8, e9, e23, e24, e25, e30, e31, e32]; rfl))
    · simp -implicitDefEqProofs (disch := omega) only [go_sem, e1, e4, e5, e6, e7, e8, e9, e23, e24, e25, e30, e31, e32, hmj]; omega
  have j0 : ¬ (j : Int) < (r.length : Int) := by omega
  rw [List.take_of_length_le (by omega)] at e9
  have hl1 := Tb.putS_len r fun n hn => (hpl n hn).2
  simp -implicitDefEqProofs (disch := omega) only [go_sem, e1, e4, e5, e6, e7, e8, e9, e23, e24, e25, e30, e31, e32, j0, decide_false]
  refine RRun_lookup (k := 9) (e := 3) (n := n) (F := Tb.look rows) Try.underlying79 Try.underlying9 Try.underlying3 tzero_int (by simp) (by simp only [maxLen]; omega) ?_
  rw [Tb.look_row hpl hallp]
  have hidx := Tb.idx_le rows r
  have hstep := Tb.rowsW_snoc (d.next.take i) r
  rw [← hsucc, hrw] at hstep
  unfold Tb.addRow at hstep
  simp only [] at hstep
  have hgwi : i < (which ++ List.replicate (d.next.length - i) (0 : Int)).length := by rw [List.length_append, List.length_replicate]; omega
  by_cases hnew : Tb.idx rows r = rows.length
  rotate_left
  · rw [if_neg hnew] at hstep ⊢
    simp -implicitDefEqProofs (disch := omega) only [go_sem, e1, e4, e5, e6, e7, e8, e9, e23, e24, e25, e30, e31, e32, Option.isSome_some, Option.getD_some, Bool.not_true, g0, hgwi, set_rep hwl hil]
    refine hQ' _ _ fun w1 hs => ⟨_, hs, ⟨i + 1, ao, co, n, vs, rows, which ++ [(Tb.idx rows r : Int)], by omega, hstep, hn, hco, by rw [List.length_append, List.length_singleton, hwl], by omega, ?_, ?_, ?_, ?_, ?_, ?_, ?_, rfl⟩, ?_⟩
    · (first | (simp -implicitDefEqProofs (disch := omega) only [go_sem, e1, e4, e5, e6, e7, e8, e9, e23, e24, e25, e30, e31, e32]; done) | (simp -implicitDefEqProofs (disch := omega) only [go_sem, e1, e4, e5, e6, e7, e8, e9, e23, e24, e25, e30, e31, e32]; rfl))
    · (first | (simp -implicitDefEqProofs (disch := omega) only [go_sem, e1, e4, e5, e6, e7, e8, e9, e23, e24, e25, e30, e31, e32]; done) | (simp -implicitDefEqProofs (disch := omega) only [go_sem, e1, e4, e5, e6, e7, e8, e9, e23, e24, e25, e30, e31, e32]; rfl))
    · (first | (simp -implicitDefEqProofs (disch := omega) only [go_sem, e1, e4, e5, e6, e7, e8, e9, e23, e24, e25, e30, e31, e32]; done) | (simp -implicitDefEqProofs (disch := omega) only [go_sem, e1, e4, e5, e6, e7, e8, e9, e23, e24, e25, e30, e31, e32]; rfl))
    · (first | (simp -implicitDefEqProofs (disch := omega) only [go_sem, e1, e4, e5, e6, e7, e8, e9, e23, e24, e25, e30, e31, e32]; done) | (simp -implicitDefEqProofs (disch := omega) only [go_sem, e1, e4, e5, e6, e7, e8, e9, e23, e24, e25, e30, e31, e32]; rfl))
    · rw [hda]; (first | (simp -implicitDefEqProofs (disch := omega) only [go_sem, e1, e4, e5, e6, e7, e8, e9, e23, e24, e25, e30, e31, e32]; done) | (simp -implicitDefEqProofs (disch := omega) only [go_sem, e1, e4, e5, e6, e7, e8, e9, e23, e24, e25, e30, e31, e32]; rfl))
    · (first | (simp -implicitDefEqProofs (disch := omega) only [go_sem, e1, e4, e5, e6, e7, e8, e9, e23, e24, e25, e30, e31, e32]; done) | (simp -implicitDefEqProofs (disch := omega) only [go_sem, e1, e4, e5, e6, e7, e8, e9, e23, e24, e25, e30, e31, e32]; rfl))
    · (first | (simp -implicitDefEqProofs (disch := omega) only [go_sem, e1, e4, e5, e6, e7, e8, e9, e23, e24, e25, e30, e31, e32]; done) | (simp -implicitDefEqProofs (disch := omega) only [go_sem, e1, e4, e5, e6, e7, e8, e9, e23, e24, e25, e30, e31, e32]; rfl))
    · simp -implicitDefEqProofs (disch := omega) only [go_sem, e1, e4, e5, e6, e7, e8, e9, e23, e24, e25, e30, e31, e32, hmi]; omega
  rw [if_pos hnew] at hstep ⊢
  have hlk : Tb.look rows (Tb.putS r) = none := by rw [Tb.look_row hpl hallp, if_pos hnew]
  have hlk2 := Tb.look_snoc hlk
  simp -implicitDefEqProofs (disch := omega) only [go_sem, e1, e4, e5, e6, e7, e8, e9, e23, e24, e25, e30, e31, e32, Option.isSome_none, Option.getD_none, Bool.not_false]
  refine RRunU_mapUpdate (k := 9) (e := 3) (n := n) (F := Tb.look rows) [_, _] _ rfl Try.underlying79 Try.underlying9 Try.underlying3 (by simp only [maxLen]; omega) (by omega) (by simp only [maxLen]; omega) ?_
  rw [hn, ← hlk2]
  simp only [List.cons_append, List.nil_append]
  rw [← hn]
  simp -implicitDefEqProofs (disch := omega) only [go_sem, e1, e4, e5, e6, e7, e8, e9, e23, e24, e25, e30, e31, e32]
  refine RRun_append_rd (e := 3) (n := 0) (xs := []) (Dfa.ints r) tints_sl (fun _ hs => hs.own_nil 3 1) (fun w1 hs => hrd.keep (hs.anchor (by simp))) (fun _ _ => rfl) (fun u hu => by
    rw [flat_ints] at hu
    obtain ⟨x, _, rfl⟩ := List.mem_map.1 hu
    rfl) (by omega) (by omega) (by simp only [maxLen]; omega) fun ai ci hci => ?_
  rw [flat_ints, Nat.zero_add, List.nil_append]
  simp -implicitDefEqProofs (disch := omega) only [go_sem, e1, e4, e5, e6, e7, e8, e9, e23, e24, e25, e30, e31, e32]
  refine RRun_build1 tintss_sl rfl fun gy hgy => ?_
  simp -implicitDefEqProofs (disch := omega) only [go_sem, e1, e4, e5, e6, e7, e8, e9, e23, e24, e25, e30, e31, e32]
  refine RRun_append_cells (n := n) (xs := (List.range n).map vs) (m := 1) tintss_sl (fun _ hs => Sat.perm (List.perm_middle (l₁ := [_, _])) hs.2.2.2) (by simp) (fun u hu => by simp at hu; subst hu; rfl) (by omega) (by simp only [maxLen]; omega) fun a'' c'' hc'' => ?_
  simp -implicitDefEqProofs (disch := omega) only [go_sem, e1, e4, e5, e6, e7, e8, e9, e23, e24, e25, e30, e31, e32, g0, hgwi, set_rep hwl hil]
  have hS : (fun k => k < n + 1 ∧ k ≠ n) = fun k => k < n := by funext k; exact propext (by omega)
  refine hQ' _ _ fun w1 hs => ⟨[RowsOwn 3 (fun k => k < n + 1) (fun k => if k = n then .slice ai r.length ci else vs k) (fun k => iv ((rows ++ [r]).getD k [])), Own 46 1 (.slice a'' (n + 1) c'') (n + 1) ((List.range (n + 1)).map fun k => if k = n then .slice ai r.length ci else vs k), Mp Try.prog 9 3 gm (n + 1) (Tb.look (rows ++ [r])), .cells gw 3 (List.toArray (iv ((which ++ [(n : Int)]) ++ List.replicate (d.next.length - (i + 1)) 0))), .anchor w []], ?_, ⟨i + 1, a'', c'', n + 1, _, rows ++ [r], which ++ [(n : Int)], by omega, by rw [hstep, hn], by rw [List.length_append, List.length_singleton, hn], hc'', by rw [List.length_append, List.length_singleton, hwl], by omega, ?_, ?_, ?_, ?_, ?_, ?_, ?_, rfl⟩, ?_⟩
  · have hs2 := Sat.perm (List.perm_middle (l₁ := [Own 3 1 (.slice ai r.length ci) r.length (iv r), RowsOwn 3 (fun k => k < n) vs (fun k => iv (rows.getD k []))])).symm hs
    have hj := Sat.rows_join (S := fun k => k < n + 1) (vs := vs) (xs := fun k => iv (rows.getD k [])) n (.slice ai r.length ci) r.length (iv r) (by rw [hS]; exact hs2)
    rw [rows_snoc hn r] at hj
    rw [range_snoc]
    exact hj
  · (first | (simp -implicitDefEqProofs (disch := omega) only [go_sem, e1, e4, e5, e6, e7, e8, e9, e23, e24, e25, e30, e31, e32]; done) | (simp -implicitDefEqProofs (disch := omega) only [go_sem, e1, e4, e5, e6, e7, e8, e9, e23, e24, e25, e30, e31, e32]; rfl))
  · (first | (simp -implicitDefEqProofs (disch := omega) only [go_sem, e1, e4, e5, e6, e7, e8, e9, e23, e24, e25, e30, e31, e32]; done) | (simp -implicitDefEqProofs (disch := omega) only [go_sem, e1, e4, e5, e6, e7, e8, e9, e23, e24, e25, e30, e31, e32]; rfl))
  · (first | (simp -implicitDefEqProofs (disch := omega) only [go_sem, e1, e4, e5, e6, e7, e8, e9, e23, e24, e25, e30, e31, e32]; done) | (simp -implicitDefEqProofs (disch := omega) only [go_sem, e1, e4, e5, e6, e7, e8, e9, e23, e24, e25, e30, e31, e32]; rfl))
  · (first | (simp -implicitDefEqProofs (disch := omega) only [go_sem, e1, e4, e5, e6, e7, e8, e9, e23, e24, e25, e30, e31, e32]; done) | (simp -implicitDefEqProofs (disch := omega) only [go_sem, e1, e4, e5, e6, e7, e8, e9, e23, e24, e25, e30, e31, e32]; rfl))
  · rw [hda]; (first | (simp -implicitDefEqProofs (disch := omega) only [go_sem, e1, e4, e5, e6, e7, e8, e9, e23, e24, e25, e30, e31, e32]; done) | (simp -implicitDefEqProofs (disch := omega) only [go_sem, e1, e4, e5, e6, e7, e8, e9, e23, e24, e25, e30, e31, e32]; rfl))
  · (first | (simp -implicitDefEqProofs (disch := omega) only [go_sem, e1, e4, e5, e6, e7, e8, e9, e23, e24, e25, e30, e31, e32]; done) | (simp -implicitDefEqProofs (disch := omega) only [go_sem, e1, e4, e5, e6, e7, e8, e9, e23, e24, e25, e30, e31, e32]; rfl))
  · (first | (simp -implicitDefEqProofs (disch := omega) only [go_sem, e1, e4, e5, e6, e7, e8, e9, e23, e24, e25, e30, e31, e32]; done) | (simp -implicitDefEqProofs (disch := omega) only [go_sem, e1, e4, e5, e6, e7, e8, e9, e23, e24, e25, e30, e31, e32]; rfl))
  · simp -implicitDefEqProofs (disch := omega) only [go_sem, e1, e4, e5, e6, e7, e8, e9, e23, e24, e25, e30, e31, e32, hmi]; omega
end Go.Proofs.Ytldidoaagijnhaa
