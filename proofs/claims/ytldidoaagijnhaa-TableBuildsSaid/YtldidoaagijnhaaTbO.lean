/- table's reference: the walk: the different rows. table's reference: the walk: an automaton in bytes. -/
import Derived.Test.YtldidoaagijnhaaTbJ
import Derived.Test.YtldidoaagijnhaaTbD
import Derived.Test.YtldidoaagijnhaaDfaBY4
namespace Go.Proofs.Ytldidoaagijnhaa
set_option linter.unusedSimpArgs false
set_option linter.unusedVariables false
open H
/-- The value of a row of an automaton. -/
def rv (d : Dfa.D) (j : Nat) : Value := .slice (d.ra j) (Dfa.row d j).length (d.rc j)
/-- The different rows as the reference hands them back: they are the automaton's own. -/
def RefRows (d : Dfa.D) (n : Nat) (v : Value) (rs : List Res) (rows : List (List Int)) (which : List Int) : Prop :=
  ∃ (ao : Option Addr) (co : Nat) (aw : Option Addr) (cw : Nat) (ixs : List Nat), v = .tuple #[.slice ao rows.length co, .slice aw n cw] ∧ which.length = n ∧ rows = ixs.map (Dfa.row d) ∧ (∀ j ∈ ixs, j < d.next.length) ∧
    rs = [Own 46 1 (.slice ao rows.length co) rows.length ((List.range rows.length).map fun k => rv d (ixs.getD k 0)), Own 3 1 (.slice aw n cw) n (iv which)]
theorem getD_map {α β : Type} (f : α → β) (l : List α) (k : Nat) (x : α) (y : β) (hk : k < l.length) : (l.map f).getD k y = f (l.getD k x) := by
  rw [List.getD_eq_getElem?_getD, List.getD_eq_getElem?_getD, List.getElem?_map, List.getElem?_eq_getElem hk]; rfl
set_option maxRecDepth 20000 in
set_option maxHeartbeats 4000000 in
theorem rtb_rows (d : Dfa.D) (hR : Dfa.Right d) (w : World) (hm : Dfa.Mem w d) : Does Try.prog 28 #[d.val] w fun v w' => ∃ rs, Sat w' (rs ++ [.anchor w []]) ∧ RefRows d d.next.length v rs (Tb.rowsW d.next).1 (Tb.rowsW d.next).2 := by
  have hval : d.val = .agg (List.toArray (Dfa.dC (Dfa.clsV d) (.slice d.a d.next.length d.c) (.slice d.ar d.rules.length d.cr))) := rfl
  rw [hval]
  refine does (args := [.agg (List.toArray (Dfa.dC (Dfa.clsV d) (.slice d.a d.next.length d.c) (.slice d.ar d.rules.length d.cr)))]) Try.func28 rfl (by kernel_rfl) (by kernel_rfl) rfl ent_28 (Sat.start w []) ?_; intro QV hQ
  simp -implicitDefEqProofs (disch := omega) only [go_sem]
  refine RNew_intro fun g1 hg1 => ?_
  have hg1' : w.heap.size ≤ g1 := hg1.1
  simp -implicitDefEqProofs (disch := omega) only [go_sem]
  refine RCall_eqS (fun w1 hs => by have := rdfa_right d w1 (hm.keep (hs.anchor (by simp))); rw [hval] at this; exact this) ?_
  have hn1 : 1 ≤ d.next.length := hR.1
  have hn2 : d.next.length ≤ 1000 := hR.2.1
  simp -implicitDefEqProofs (disch := omega) only [go_sem, hR, decide_true]
  obtain ⟨BX, hBX⟩ : ∃ B, B = Res.cells g1 48 (List.toArray (Dfa.dC (Dfa.clsV d) (.slice d.a d.next.length d.c) (.slice d.ar d.rules.length d.cr))) := ⟨_, rfl⟩
  refine RLoop_from (fun f h => ∃ (i : Nat) (ao : Option Addr) (co n : Nat) (aw : Option Addr) (cw : Nat) (ixs : List Nat) (rows : List (List Int)) (which : List Int), i ≤ d.next.length ∧ Tb.rowsW (d.next.take i) = (rows, which) ∧ n = rows.length ∧ n ≤ co ∧ which.length = i ∧ i ≤ cw ∧ n ≤ i ∧ rows = ixs.map (Dfa.row d) ∧ (∀ j ∈ ixs, j < d.next.length) ∧
    f 1 = .pointer (some ⟨g1, 0, none⟩) ∧ f 4 = .slice ao n co ∧ f 5 = .slice aw i cw ∧ f 6 = .int .i64 (i : Int) ∧
    h = [Own 46 1 (.slice ao n co) n ((List.range n).map fun k => rv d (ixs.getD k 0)), Own 3 1 (.slice aw i cw) i (iv which), BX, .anchor w []]) (fun f _ => (d.next.length - ival (f 6)).toNat) ?_ ?_
  · refine fun w1 hs => ⟨_, ?_, 0, none, 0, 0, none, 0, [], [], [], by omega, rfl, rfl, by omega, rfl, by omega, by omega, rfl, by simp, by (first | (simp -implicitDefEqProofs (disch := omega) only [go_sem]; done) | (simp -implicitDefEqProofs (disch := omega) only [go_sem]; rfl)), by (first | (simp -implicitDefEqProofs (disch := omega) only [go_sem]; done) | (simp -implicitDefEqProofs (disch := omega) only [go_sem]; rfl)), by (first | (simp -implicitDefEqProofs (disch := omega) only [go_sem]; done) | (simp -implicitDefEqProofs (disch := omega) only [go_sem]; rfl)), by (first | (simp -implicitDefEqProofs (disch := omega) only [go_sem]; done) | (simp -implicitDefEqProofs (disch := omega) only [go_sem]; rfl)), rfl⟩
    subst hBX
    exact (hs.own_nil 3 1).own_nil 46 1
  rintro f h ⟨i, ao, co, n, aw, cw, ixs, rows, which, hi, hrw, hn, hco, hwl, hcw, hni, hrix, hix, e1, e4, e5, e6, rfl⟩ Q' hQ'
  have hmi : ival (f 6) = (i : Int) := by rw [e6]; rfl
  by_cases hil : i < d.next.length
  rotate_left
  · have g0 : ¬ (i : Int) < (d.next.length : Int) := by omega
    obtain rfl : i = d.next.length := by omega
    rw [List.take_length] at hrw
    rw [hrw] at hQ
    subst hn
    subst hBX
    simp -implicitDefEqProofs (disch := omega) only [go_sem, e1, e4, e5, e6, g0, decide_false]
    exact hQ _ _ fun w' hs => ⟨_, Sat.sub (h' := [_, _] ++ [.anchor w []]) (.cons_cons _ (.cons_cons _ (.cons _ (List.Sublist.refl _)))) hs, ao, co, aw, cw, ixs, rfl, hwl, hrix, hix, rfl⟩
  have g0 : (i : Int) < (d.next.length : Int) := by omega
  subst hBX
  obtain ⟨r, hr⟩ : ∃ r, r = Dfa.row d i := ⟨_, rfl⟩
  have hsucc : d.next.take (i + 1) = d.next.take i ++ [r] := by rw [hr]; exact Dfa.take_succ d.next [] i hil
  have hidx := Tb.idx_le rows r
  have hstep := Tb.rowsW_snoc (d.next.take i) r
  rw [← hsucc, hrw] at hstep
  unfold Tb.addRow at hstep
  simp only [] at hstep
  have hrl : ∀ i, i < d.next.length → (Dfa.row d i).length ≤ 256 := fun i hi => by
    have := (Dfa.classes_ok d hR.2.2.2.1).2.1
    have := (hR.2.2.2.2 i hi).2.2.1
    omega
  have hixl : ixs.length = n := by rw [hn, hrix, List.length_map]
  obtain ⟨H, hH⟩ : ∃ H, H = [Own 46 1 (.slice ao n co) n ((List.range n).map fun k => rv d (ixs.getD k 0)), Own 3 1 (.slice aw i cw) i (iv which), Res.cells g1 48 (List.toArray (Dfa.dC (Dfa.clsV d) (.slice d.a d.next.length d.c) (.slice d.ar d.rules.length d.cr))), .anchor w []] := ⟨_, rfl⟩
  simp -implicitDefEqProofs (disch := omega) only [go_sem, e1, e4, e5, e6, g0, decide_true]
  rw [← hH]
  refine RLoop_from (fun f h => ∃ (w1 : World) (k : Nat), Sat w1 H ∧ k ≤ n ∧ (∀ j, j < k → rows.getD j [] ≠ r) ∧ f 1 = .pointer (some ⟨g1, 0, none⟩) ∧ f 4 = .slice ao n co ∧ f 5 = .slice aw i cw ∧ f 6 = .int .i64 (i : Int) ∧ f 7 = .int .i64 (k : Int) ∧ h = [.anchor w1 []]) (fun f _ => (n - ival (f 7)).toNat) ?_ ?_
  · exact fun w1 hs => ⟨_, Sat.start w1 [], w1, 0, hs, by omega, by omega, by (first | (simp -implicitDefEqProofs (disch := omega) only [go_sem, e1, e4, e5, e6]; done) | (simp -implicitDefEqProofs (disch := omega) only [go_sem, e1, e4, e5, e6]; rfl)), by (first | (simp -implicitDefEqProofs (disch := omega) only [go_sem, e1, e4, e5, e6]; done) | (simp -implicitDefEqProofs (disch := omega) only [go_sem, e1, e4, e5, e6]; rfl)), by (first | (simp -implicitDefEqProofs (disch := omega) only [go_sem, e1, e4, e5, e6]; done) | (simp -implicitDefEqProofs (disch := omega) only [go_sem, e1, e4, e5, e6]; rfl)), by (first | (simp -implicitDefEqProofs (disch := omega) only [go_sem, e1, e4, e5, e6]; done) | (simp -implicitDefEqProofs (disch := omega) only [go_sem, e1, e4, e5, e6]; rfl)), by (first | (simp -implicitDefEqProofs (disch := omega) only [go_sem, e1, e4, e5, e6]; done) | (simp -implicitDefEqProofs (disch := omega) only [go_sem, e1, e4, e5, e6]; rfl)), rfl⟩
  clear e1 e4 e5 e6
  rintro f h ⟨w1, k, hS, hk, hne, e1, e4, e5, e6, e7, rfl⟩ Q2 hQ2
  have hmk : ival (f 7) = (k : Int) := by rw [e7]; rfl
  have hS0 := hS
  rw [hH] at hS0
  have hm1 : Dfa.Mem w1 d := hm.keep (hS0.anchor (by simp))
  have hb1 : w1.cell? ⟨g1, 256, none⟩ = some (.slice d.a d.next.length d.c) := look_sound hS0 (by simp -implicitDefEqProofs (disch := omega) only [go_sem])
  have hg1w : g1 < w1.heap.size := hS0.lt (Res.cells g1 48 (List.toArray (Dfa.dC (Dfa.clsV d) (.slice d.a d.next.length d.c) (.slice d.ar d.rules.length d.cr)))) (by simp) g1 rfl
  obtain ⟨b, o, hda, hbb, hcb⟩ := Dfa.next_at hm1 i hil
  have hi2 : d.next.take i ++ [r] = d.next.take (i + 1) := hsucc.symm
  by_cases hkn : k < n
  · have k0 : (k : Int) < (n : Int) := by omega
    have hj := hix (ixs.getD k 0) (by rw [List.getD_eq_getElem?_getD, List.getElem?_eq_getElem (by omega)]; exact List.getElem_mem _)
    have hown := own_next (hS0.mem (Own 46 1 (.slice ao n co) n ((List.range n).map fun k => rv d (ixs.getD k 0))) (by simp))
    obtain ⟨bo, oo, hao, hbo, _, hco1⟩ := hown.at_ k hkn
    have hco2 := hco1 0 (by omega)
    rw [Nat.mul_one, Nat.add_zero] at hco2
    have hrk : rows.getD k [] = Dfa.row d (ixs.getD k 0) := by rw [hrix]; exact getD_map _ _ _ _ _ (by omega)
    generalize hjx : ixs.getD k 0 = j at *
    have hl1 := hrl j hj
    have hl2 := hrl i hil
    have hco3 : w1.cell? ⟨bo, oo + k, none⟩ = some (.slice (d.ra j) (Dfa.row d j).length (d.rc j)) := by rw [hco2]; rfl
    have hints := fun w3 (hs : Sat w3 [.anchor w1 []]) => ref_ints (Dfa.row d j) (Dfa.row d i) (d.ra j) (d.ra i) (d.rc j) (d.rc i) (by omega) (by omega) w3 ((hm1.rows j hj).keep (hs.anchor (by simp))) ((hm1.rows i hil).keep (hs.anchor (by simp)))
    rw [← hr] at hints hcb hl2
    rw [hda] at hb1
    rw [hao] at e4
    simp -implicitDefEqProofs (disch := omega) only [go_sem, e1, e4, e5, e6, e7]
    refine RDraw_seg (by kernel_rfl) (by kernel_rfl) 17 rfl ?_
    refine RS_det (by kernel_rfl) ?_
    repeat (first | refine ToO_step (fun Q hq => by (simp -implicitDefEqProofs (disch := omega) only [go_sem, e1, e4, e5, e6, e7, k0, hg1w, hb1, g0, hbb, hcb, hbo, hco3, decide_true]; exact hq)) ?_ | refine ToO_guard (by (simp -implicitDefEqProofs only [go_sem, e1, e4, e5, e6, e7, k0, hg1w, hb1, g0, hbb, hcb, hbo, hco3, decide_true]; first | done | fail)) (fun Q hq => by (simp -implicitDefEqProofs (disch := omega) only [go_sem, e1, e4, e5, e6, e7, k0, hg1w, hb1, g0, hbb, hcb, hbo, hco3, decide_true]; exact hq)) ?_ | refine ToO_skip (.inl (by (simp -implicitDefEqProofs only [go_sem, e1, e4, e5, e6, e7, k0, hg1w, hb1, g0, hbb, hcb, hbo, hco3, decide_true]; first | done | fail))) ?_ | refine ToO_skip (.inr (by (simp -implicitDefEqProofs only [go_sem, e1, e4, e5, e6, e7, k0, hg1w, hb1, g0, hbb, hcb, hbo, hco3, decide_true]; first | done | fail))) ?_)
    first | refine ToO_step (fun Q hq => by (simp -implicitDefEqProofs (disch := omega) only [go_sem, e1, e4, e5, e6, e7]; refine RCall_eqS (hints) ?_; simp -implicitDefEqProofs (disch := omega) only [go_sem, e1, e4, e5, e6, e7]; exact hq)) ?_ | refine ToO_guard (by (simp -implicitDefEqProofs only [go_sem, e1, e4, e5, e6, e7]; first | done | fail)) (fun Q hq => by (simp -implicitDefEqProofs (disch := omega) only [go_sem, e1, e4, e5, e6, e7]; refine RCall_eqS (hints) ?_; simp -implicitDefEqProofs (disch := omega) only [go_sem, e1, e4, e5, e6, e7]; exact hq)) ?_
    repeat (first | refine ToO_step (fun Q hq => by (simp -implicitDefEqProofs (disch := omega) only [go_sem, e1, e4, e5, e6, e7]; exact hq)) ?_ | refine ToO_guard (by (simp -implicitDefEqProofs only [go_sem, e1, e4, e5, e6, e7]; first | done | fail)) (fun Q hq => by (simp -implicitDefEqProofs (disch := omega) only [go_sem, e1, e4, e5, e6, e7]; exact hq)) ?_ | refine ToO_skip (.inl (by (simp -implicitDefEqProofs only [go_sem, e1, e4, e5, e6, e7]; first | done | fail))) ?_ | refine ToO_skip (.inr (by (simp -implicitDefEqProofs only [go_sem, e1, e4, e5, e6, e7]; first | done | fail))) ?_)
    refine ToO_nil ?_
    by_cases hjr : Dfa.row d j = r
    rotate_left
    · simp -implicitDefEqProofs (disch := omega) only [go_sem, e1, e4, e5, e6, e7, hjr, decide_false, Bool.not_false]
      refine hQ2 _ _ fun w3 hs => ⟨_, hs, ⟨w1, k + 1, hS, by omega, fun j' hj' => ?_, ?_, ?_, ?_, ?_, ?_, rfl⟩, ?_⟩
      · rcases Nat.lt_succ_iff_lt_or_eq.1 hj' with h | rfl
        · exact hne j' h
        · rw [hrk]; exact hjr
      · (first | (simp -implicitDefEqProofs (disch := omega) only [go_sem, e1, e4, e5, e6, e7]; done) | (simp -implicitDefEqProofs (disch := omega) only [go_sem, e1, e4, e5, e6, e7]; rfl))
      · rw [hao]; (first | (simp -implicitDefEqProofs (disch := omega) only [go_sem, e1, e4, e5, e6, e7]; done) | (simp -implicitDefEqProofs (disch := omega) only [go_sem, e1, e4, e5, e6, e7]; rfl))
      · (first | (simp -implicitDefEqProofs (disch := omega) only [go_sem, e1, e4, e5, e6, e7]; done) | (simp -implicitDefEqProofs (disch := omega) only [go_sem, e1, e4, e5, e6, e7]; rfl))
      · (first | (simp -implicitDefEqProofs (disch := omega) only [go_sem, e1, e4, e5, e6, e7]; done) | (simp -implicitDefEqProofs (disch := omega) only [go_sem, e1, e4, e5, e6, e7]; rfl))
      · (first | (simp -implicitDefEqProofs (disch := omega) only [go_sem, e1, e4, e5, e6, e7]; done) | (simp -implicitDefEqProofs (disch := omega) only [go_sem, e1, e4, e5, e6, e7]; rfl))
      · simp -implicitDefEqProofs (disch := omega) only [go_sem, e1, e4, e5, e6, e7, hmk]; omega
    have hid : Tb.idx rows r = k := Tb.idx_first (by omega) (by rw [hrk]; exact hjr) hne
    rw [if_neg (by omega), hid] at hstep
    have k1 : ¬ (k : Int) = (n : Int) := by omega
    simp -implicitDefEqProofs (disch := omega) only [go_sem, e1, e4, e5, e6, e7, hjr, k1, decide_true, decide_false, Bool.not_true]
    refine RRun_buildz [.int .i64 (k : Int)] (iv [(k : Int)]) tints_sl rfl rfl (by simp) (fun v hv => by
      simp only [List.mem_cons, List.not_mem_nil, or_false] at hv
      subst hv; rfl) rfl (by simp) fun gz hgz => ?_
    simp -implicitDefEqProofs (disch := omega) only [go_sem, e1, e4, e5, e6, e7]
    refine RRun_append_cells (n := i) (xs := iv which) (m := 1) (h' := [Own 46 1 (.slice ao n co) n ((List.range n).map fun k => rv d (ixs.getD k 0)), Res.cells g1 48 (List.toArray (Dfa.dC (Dfa.clsV d) (.slice d.a d.next.length d.c) (.slice d.ar d.rules.length d.cr))), .anchor w []]) tints_sl (fun w3 hs => by
      have h4 := hS.ext (hs.anchor (w0 := w1) (S := []) (by simp))
      rw [hH] at h4
      exact Sat.swap2 h4) rfl (fun u hu => by
      simp only [iv, List.map_cons, List.map_nil, List.mem_singleton] at hu
      subst hu; rfl) (by omega) (by simp only [maxLen]; omega) fun aw' cw' hcw' => ?_
    simp -implicitDefEqProofs (disch := omega) only [go_sem, e1, e4, e5, e6, e7]
    refine hQ' _ _ fun w3 hs => ⟨_, Sat.swap2 hs, ⟨i + 1, ao, co, n, aw', cw', ixs, rows, which ++ [(k : Int)], by omega, hstep, hn, hco, by rw [List.length_append, List.length_singleton, hwl], hcw', by omega, hrix, hix, ?_, ?_, ?_, ?_, by rw [← iv_snoc]; rfl⟩, ?_⟩
    · (first | (simp -implicitDefEqProofs (disch := omega) only [go_sem, e1, e4, e5, e6, e7]; done) | (simp -implicitDefEqProofs (disch := omega) only [go_sem, e1, e4, e5, e6, e7]; rfl))
    · rw [hao]; (first | (simp -implicitDefEqProofs (disch := omega) only [go_sem, e1, e4, e5, e6, e7]; done) | (simp -implicitDefEqProofs (disch := omega) only [go_sem, e1, e4, e5, e6, e7]; rfl))
    · (first | (simp -implicitDefEqProofs (disch := omega) only [go_sem, e1, e4, e5, e6, e7]; done) | (simp -implicitDefEqProofs (disch := omega) only [go_sem, e1, e4, e5, e6, e7]; rfl))
    · (first | (simp -implicitDefEqProofs (disch := omega) only [go_sem, e1, e4, e5, e6, e7]; done) | (simp -implicitDefEqProofs (disch := omega) only [go_sem, e1, e4, e5, e6, e7]; rfl))
    · simp -implicitDefEqProofs (disch := omega) only [go_sem, e1, e4, e5, e6, e7, hmi]; omega
  have k0 : ¬ (k : Int) < (n : Int) := by omega
  have k1 : (k : Int) = (n : Int) := by omega
  have hid : Tb.idx rows r = rows.length := Tb.idx_none fun j hj => hne j (by omega)
  rw [if_pos hid] at hstep
  rw [hda] at hb1
  simp -implicitDefEqProofs (disch := omega) only [go_sem, e1, e4, e5, e6, e7]
  refine RDraw_seg (by kernel_rfl) (by kernel_rfl) 17 rfl ?_
  refine RS_det (by kernel_rfl) ?_
  repeat (first | refine ToO_step (fun Q hq => by (simp -implicitDefEqProofs (disch := omega) only [go_sem, e1, e4, e5, e6, e7, k0, decide_false]; exact hq)) ?_ | refine ToO_guard (by (simp -implicitDefEqProofs only [go_sem, e1, e4, e5, e6, e7, k0, decide_false]; first | done | fail)) (fun Q hq => by (simp -implicitDefEqProofs (disch := omega) only [go_sem, e1, e4, e5, e6, e7, k0, decide_false]; exact hq)) ?_ | refine ToO_skip (.inl (by (simp -implicitDefEqProofs only [go_sem, e1, e4, e5, e6, e7, k0, decide_false]; first | done | fail))) ?_ | refine ToO_skip (.inr (by (simp -implicitDefEqProofs only [go_sem, e1, e4, e5, e6, e7, k0, decide_false]; first | done | fail))) ?_)
  refine ToO_nil ?_
  simp -implicitDefEqProofs (disch := omega) only [go_sem, e1, e4, e5, e6, e7, k1, decide_true, hg1w, hb1, g0, hbb, hcb]
  refine RRun_build1 tintss_sl rfl fun gy hgy => ?_
  simp -implicitDefEqProofs (disch := omega) only [go_sem, e1, e4, e5, e6, e7]
  refine RRun_append_cells (n := n) (xs := (List.range n).map fun k => rv d (ixs.getD k 0)) (m := 1) (h' := [Own 3 1 (.slice aw i cw) i (iv which), Res.cells g1 48 (List.toArray (Dfa.dC (Dfa.clsV d) (.slice d.a d.next.length d.c) (.slice d.ar d.rules.length d.cr))), .anchor w []]) tintss_sl (fun w3 hs => by
    have h4 := hS.ext (hs.anchor (w0 := w1) (S := []) (by simp))
    rw [hH] at h4
    exact h4) (by simp) (fun u hu => by simp at hu; subst hu; rfl) (by omega) (by simp only [maxLen]; omega) fun ao' co' hco' => ?_
  simp -implicitDefEqProofs (disch := omega) only [go_sem, e1, e4, e5, e6, e7]
  refine RRun_buildz [.int .i64 (k : Int)] (iv [(k : Int)]) tints_sl rfl rfl (by simp) (fun v hv => by
    simp only [List.mem_cons, List.not_mem_nil, or_false] at hv
    subst hv; rfl) rfl (by simp) fun gz hgz => ?_
  simp -implicitDefEqProofs (disch := omega) only [go_sem, e1, e4, e5, e6, e7]
  refine RRun_append_cells (n := i) (xs := iv which) (m := 1) (h' := [Own 46 1 (.slice ao' (n + 1) co') (n + 1) (((List.range n).map fun k => rv d (ixs.getD k 0)) ++ [Value.slice (d.ra i) (Dfa.row d i).length (d.rc i)]), Res.cells g1 48 (List.toArray (Dfa.dC (Dfa.clsV d) (.slice d.a d.next.length d.c) (.slice d.ar d.rules.length d.cr))), .anchor w []]) tints_sl (fun _ hs => Sat.swap2 hs.2.2.2) rfl (fun u hu => by
    simp only [iv, List.map_cons, List.map_nil, List.mem_singleton] at hu
    subst hu; rfl) (by omega) (by simp only [maxLen]; omega) fun aw' cw' hcw' => ?_
  simp -implicitDefEqProofs (disch := omega) only [go_sem, e1, e4, e5, e6, e7]
  have hrng : ((List.range (n + 1)).map fun k => rv d ((ixs ++ [i]).getD k 0)) = ((List.range n).map fun k => rv d (ixs.getD k 0)) ++ [Value.slice (d.ra i) (Dfa.row d i).length (d.rc i)] := by
    rw [List.range_succ, List.map_append, List.map_singleton]
    congr 1
    · refine List.map_congr_left fun k hk => ?_
      have := List.mem_range.1 hk
      rw [List.getD_eq_getElem?_getD, List.getD_eq_getElem?_getD, List.getElem?_append_left (by omega)]
    · rw [List.getD_eq_getElem?_getD, List.getElem?_append_right (by omega), hixl, Nat.sub_self]; rfl
  refine hQ' _ _ fun w3 hs => ⟨[Own 46 1 (.slice ao' (n + 1) co') (n + 1) ((List.range (n + 1)).map fun k => rv d ((ixs ++ [i]).getD k 0)), Own 3 1 (.slice aw' (i + 1) cw') (i + 1) (iv (which ++ [(n : Int)])), Res.cells g1 48 (List.toArray (Dfa.dC (Dfa.clsV d) (.slice d.a d.next.length d.c) (.slice d.ar d.rules.length d.cr))), .anchor w []], ?_, ⟨i + 1, ao', co', n + 1, aw', cw', ixs ++ [i], rows ++ [r], which ++ [(n : Int)], by omega, by rw [hstep, hn], by rw [List.length_append, List.length_singleton, hn], hco', by rw [List.length_append, List.length_singleton, hwl], hcw', by omega, by rw [List.map_append, List.map_singleton, ← hrix, hr], ?_, ?_, ?_, ?_, ?_, rfl⟩, ?_⟩
  · rw [hrng, ← iv_snoc, ← k1]
    exact Sat.swap2 hs
  · intro j hj
    rcases List.mem_append.1 hj with hj | hj
    · exact hix j hj
    · obtain rfl := List.mem_singleton.1 hj
      exact hil
  · (first | (simp -implicitDefEqProofs (disch := omega) only [go_sem, e1, e4, e5, e6, e7]; done) | (simp -implicitDefEqProofs (disch := omega) only [go_sem, e1, e4, e5, e6, e7]; rfl))
  · (first | (simp -implicitDefEqProofs (disch := omega) only [go_sem, e1, e4, e5, e6, e7]; done) | (simp -implicitDefEqProofs (disch := omega) only [go_sem, e1, e4, e5, e6, e7]; rfl))
  · (first | (simp -implicitDefEqProofs (disch := omega) only [go_sem, e1, e4, e5, e6, e7]; done) | (simp -implicitDefEqProofs (disch := omega) only [go_sem, e1, e4, e5, e6, e7]; rfl))
  · (first | (simp -implicitDefEqProofs (disch := omega) only [go_sem, e1, e4, e5, e6, e7]; done) | (simp -implicitDefEqProofs (disch := omega) only [go_sem, e1, e4, e5, e6, e7]; rfl))
  · simp -implicitDefEqProofs (disch := omega) only [go_sem, e1, e4, e5, e6, e7, hmi]; omega
open H
namespace Tb
def fromRun (F : Nat → Int) (c : Nat) : List UInt8 := runsGo F (256 - c) (c + 1) c
theorem runs_from (F : Nat → Int) : runs F = fromRun F 0 := by
  unfold runs fromRun
  rw [show (257 : Nat) = 256 + 1 from rfl, runsGo, if_neg (by simp)]
theorem fromRun_end (F : Nat → Int) : fromRun F 256 = [] := rfl
theorem fromRun_run (F : Nat → Int) (c : Nat) : ∀ (m n : Nat), n = m + 1 → c + n ≤ 256 → (∀ j, j < n → F (c + j) = F c) → (c + n = 256 ∨ F (c + n) ≠ F c) → fromRun F c = putS [F c, (n : Int)] ++ fromRun F (c + n) := by
  intro m n hn hc hall hend
  have key : ∀ j, 1 ≤ j → j ≤ n → fromRun F c = runsGo F (257 - (c + j)) (c + j) c := by
    intro j
    induction j with
    | zero => intro h; omega
    | succ j ih =>
      intro _ hj
      rcases Nat.eq_zero_or_pos j with rfl | hp
      · unfold fromRun
        rw [show 256 - c = 257 - (c + (0 + 1)) by omega]
      · rw [ih hp (by omega), show 257 - (c + j) = (257 - (c + (j + 1))) + 1 by omega, runsGo, if_neg (by
          have := hall j (by omega)
          intro h
          rcases h with h | h
          · omega
          · exact h this)]
        rfl
  rw [key n (by omega) (Nat.le_refl _), show 257 - (c + n) = (256 - (c + n)) + 1 by omega, runsGo, if_pos hend, show c + n - c = n by omega]
  rfl
theorem put1 (n : Int) : putS [n] = (Vint.put n).1 := by rw [putS_cons, putS_nil, List.append_nil]
theorem put2 (n m : Int) : putS [n, m] = (Vint.put n).1 ++ (Vint.put m).1 := by rw [putS_cons, put1]
end Tb
theorem ref_still {w1 w' : World} {d : Dfa.D} {n : Nat} {v : Value} {rs : List Res} {rows : List (List Int)} {which : List Int} (hm : Dfa.Mem w1 d) (hs : Sat w' (rs ++ [.anchor w1 []])) (hn : RefRows d n v rs rows which) :
    ∃ ao co aw cw ra rc, v = .tuple #[.slice ao rows.length co, .slice aw n cw] ∧ which.length = n ∧ Ext [] w1 w' ∧ RdRows w' ao rows ra rc ∧ Rd w' aw n 1 (Dfa.ints which) := by
  obtain ⟨ao, co, aw, cw, ixs, rfl, hwl, hrix, hix, rfl⟩ := hn
  have hx : Ext [] w1 w' := hs.anchor (by simp)
  have hixl : ixs.length = rows.length := by rw [hrix, List.length_map]
  have hrk : ∀ k, k < rows.length → rows.getD k [] = Dfa.row d (ixs.getD k 0) := fun k hk => by rw [hrix]; exact getD_map _ _ _ _ _ (by omega)
  refine ⟨ao, co, aw, cw, fun k => d.ra (ixs.getD k 0), fun k => d.rc (ixs.getD k 0), rfl, hwl, hx, ⟨?_, fun k hk => ?_⟩, ?_⟩
  · have := own_next (hs.mem (Own 46 1 (.slice ao rows.length co) rows.length ((List.range rows.length).map fun k => rv d (ixs.getD k 0))) (by simp))
    intro hn
    obtain ⟨b, o, e, hb, hc⟩ := this hn
    refine ⟨b, o, e, hb, fun i hi => ⟨rfl, fun j hj => ?_⟩⟩
    rw [(hc i hi).2 j hj]
    show _ = [Value.slice (d.ra (ixs.getD i 0)) (rows.getD i []).length (d.rc (ixs.getD i 0))][j]?
    rw [hrk i hi]; rfl
  · rw [hrk k hk]
    exact (hm.rows _ (hix _ (by rw [List.getD_eq_getElem?_getD, List.getElem?_eq_getElem (by omega)]; exact List.getElem_mem _))).keep hx
  · have h3 : w'.ownsRow 0 3 1 (.slice aw n cw) n (iv which) := hs.mem (Own 3 1 (.slice aw n cw) n (iv which)) (by simp)
    subst hwl
    refine rd_own (e := 3) (c := cw) ?_ fun _ _ => rfl
    rw [flat_ints]
    exact h3
set_option maxRecDepth 20000 in
set_option maxHeartbeats 4000000 in
theorem rtb_build0 (d : Dfa.D) (w : World) (hm : Dfa.Mem w d) : Does Try.prog 26 #[d.val] w fun v w' => v = .tuple #[str (Tb.build d).1, .int .i64 (Tb.build d).2] ∧ Ext [] w w' := by
  have hval : d.val = .agg (List.toArray (Dfa.dC (Dfa.clsV d) (.slice d.a d.next.length d.c) (.slice d.ar d.rules.length d.cr))) := rfl
  rw [hval]
  refine does (args := [.agg (List.toArray (Dfa.dC (Dfa.clsV d) (.slice d.a d.next.length d.c) (.slice d.ar d.rules.length d.cr)))]) Try.func26 rfl (by kernel_rfl) (by kernel_rfl) rfl ent_26 (Sat.start w []) ?_; intro QV hQ
  simp -implicitDefEqProofs (disch := omega) only [go_sem]
  refine RNew_intro fun g1 hg1 => ?_
  have hg1' : w.heap.size ≤ g1 := hg1.1
  simp -implicitDefEqProofs (disch := omega) only [go_sem]
  refine RCall_eqS (fun w1 hs => by have := rdfa_right d w1 (hm.keep (hs.anchor (by simp))); rw [hval] at this; exact this) ?_
  by_cases hR : Dfa.Right d
  rotate_left
  · have hb : Tb.build d = ([], 4) := by unfold Tb.build; rw [if_neg hR]
    rw [hb] at hQ
    simp -implicitDefEqProofs (disch := omega) only [go_sem, hR, decide_false]
    exact hQ _ _ fun w' hs => ⟨rfl, hs.anchor (by simp)⟩
  have hb : Tb.build d = (Tb.bytes d.cls d.next d.rules ++ Tb.sumB (Tb.bytes d.cls d.next d.rules), 0) := by unfold Tb.build; rw [if_pos hR]
  have hcl := Tb.right_cls hR
  rw [hb] at hQ
  have hn1 : 1 ≤ d.next.length := hR.1
  have hn2 : d.next.length ≤ 1000 := hR.2.1
  have hrl : ∀ i, i < d.next.length → (Dfa.row d i).length ≤ 256 := fun i hi => by
    have := (Dfa.classes_ok d hR.2.2.2.1).2.1
    have := (hR.2.2.2.2 i hi).2.2.1
    omega
  have hrl0 := hrl 0 (by omega)
  obtain ⟨b, o, hda, hbb, hc0⟩ := Dfa.next_at hm 0 (by omega)
  rw [Nat.add_zero] at hc0
  have hb1 : b ≠ g1 := by omega
  have h0 : (0 : Int) < (d.next.length : Int) := by omega
  have hp1 := Tb.put_len (n := (d.next.length : Int)) (by omega)
  have hp2 := Tb.put_len (n := ((Dfa.row d 0).length : Int)) (by omega)
  have b0 : strV .add ⟨#[83, 67, 65, 78]⟩ ⟨(Vint.put (d.next.length : Int)).1.toArray⟩ = some (str ([83, 67, 65, 78] ++ (Vint.put (d.next.length : Int)).1)) := strV_add [83, 67, 65, 78] _ (by simp only [List.length_cons, List.length_nil]; omega)
  have hbl0 : ([83, 67, 65, 78] ++ (Vint.put (d.next.length : Int)).1).length ≤ 13 := by rw [List.length_append]; simp only [List.length_cons, List.length_nil]; omega
  obtain ⟨X0, hX0⟩ : ∃ X, X = [83, 67, 65, 78] ++ (Vint.put (d.next.length : Int)).1 := ⟨_, rfl⟩
  rw [← hX0] at b0 hbl0
  have hX : X0 ++ (Vint.put ((Dfa.row d 0).length : Int)).1 = [83, 67, 65, 78] ++ Tb.putS [(d.next.length : Int), ((Dfa.row d 0).length : Int)] := by rw [hX0, Tb.put2, List.append_assoc]
  simp -implicitDefEqProofs (disch := omega) only [go_sem, hR, decide_true]
  refine RDraw_seg (by kernel_rfl) (by kernel_rfl) 13 rfl ?_
  refine RS_det (by kernel_rfl) ?_
  rw [hda]
  repeat (first | refine ToO_step (fun Q hq => by (simp -implicitDefEqProofs (disch := omega) only [go_sem, h0]; exact hq)) ?_ | refine ToO_guard (by (simp -implicitDefEqProofs only [go_sem, h0]; first | done | fail)) (fun Q hq => by (simp -implicitDefEqProofs (disch := omega) only [go_sem, h0]; exact hq)) ?_ | refine ToO_skip (.inl (by (simp -implicitDefEqProofs only [go_sem, h0]; first | done | fail))) ?_ | refine ToO_skip (.inr (by (simp -implicitDefEqProofs only [go_sem, h0]; first | done | fail))) ?_)
  first | refine ToO_step (fun Q hq => by (simp -implicitDefEqProofs (disch := omega) only [go_sem]; refine RCall_eq (rtb_put (d.next.length : Int) ⟨by omega, by omega⟩) ?_; simp -implicitDefEqProofs (disch := omega) only [go_sem]; exact hq)) ?_ | refine ToO_guard (by (simp -implicitDefEqProofs only [go_sem]; first | done | fail)) (fun Q hq => by (simp -implicitDefEqProofs (disch := omega) only [go_sem]; refine RCall_eq (rtb_put (d.next.length : Int) ⟨by omega, by omega⟩) ?_; simp -implicitDefEqProofs (disch := omega) only [go_sem]; exact hq)) ?_
  repeat (first | refine ToO_step (fun Q hq => by (simp -implicitDefEqProofs (disch := omega) only [go_sem, h0, b0, hbb, hb1, hc0]; exact hq)) ?_ | refine ToO_guard (by (simp -implicitDefEqProofs only [go_sem, h0, b0, hbb, hb1, hc0]; first | done | fail)) (fun Q hq => by (simp -implicitDefEqProofs (disch := omega) only [go_sem, h0, b0, hbb, hb1, hc0]; exact hq)) ?_ | refine ToO_skip (.inl (by (simp -implicitDefEqProofs only [go_sem, h0, b0, hbb, hb1, hc0]; first | done | fail))) ?_ | refine ToO_skip (.inr (by (simp -implicitDefEqProofs only [go_sem, h0, b0, hbb, hb1, hc0]; first | done | fail))) ?_)
  first | refine ToO_step (fun Q hq => by (simp -implicitDefEqProofs (disch := omega) only [go_sem]; refine RCall_eq (rtb_put ((Dfa.row d 0).length : Int) ⟨by omega, by omega⟩) ?_; simp -implicitDefEqProofs (disch := omega) only [go_sem]; exact hq)) ?_ | refine ToO_guard (by (simp -implicitDefEqProofs only [go_sem]; first | done | fail)) (fun Q hq => by (simp -implicitDefEqProofs (disch := omega) only [go_sem]; refine RCall_eq (rtb_put ((Dfa.row d 0).length : Int) ⟨by omega, by omega⟩) ?_; simp -implicitDefEqProofs (disch := omega) only [go_sem]; exact hq)) ?_
  repeat (first | refine ToO_step (fun Q hq => by (simp -implicitDefEqProofs (disch := omega) only [go_sem, h0, b0, hbb, hb1, hc0]; exact hq)) ?_ | refine ToO_guard (by (simp -implicitDefEqProofs only [go_sem, h0, b0, hbb, hb1, hc0]; first | done | fail)) (fun Q hq => by (simp -implicitDefEqProofs (disch := omega) only [go_sem, h0, b0, hbb, hb1, hc0]; exact hq)) ?_ | refine ToO_skip (.inl (by (simp -implicitDefEqProofs only [go_sem, h0, b0, hbb, hb1, hc0]; first | done | fail))) ?_ | refine ToO_skip (.inr (by (simp -implicitDefEqProofs only [go_sem, h0, b0, hbb, hb1, hc0]; first | done | fail))) ?_)
  refine ToO_nil ?_
  rw [hX]
  obtain ⟨X, hXX⟩ : ∃ X, X = [83, 67, 65, 78] ++ Tb.putS [(d.next.length : Int), ((Dfa.row d 0).length : Int)] := ⟨_, rfl⟩
  rw [← hXX] at hX ⊢
  have hXl : X.length ≤ 22 := by rw [← hX, List.length_append]; omega
  have hwl64 : ∀ i, i < 256 → (Vint.put (d.cls i)).1.length ≤ 9 := fun i hi => Tb.put_len (hcl i hi).2
  simp -implicitDefEqProofs (disch := omega) only [go_sem]
  refine RLoop_from (fun f h => ∃ (c : Nat) (s : List UInt8), c ≤ 256 ∧ s ++ Tb.fromRun d.cls c = X ++ Tb.runs d.cls ∧ s.length ≤ 22 + 18 * c ∧ f 1 = .pointer (some ⟨g1, 0, none⟩) ∧ f 4 = str s ∧ f 5 = .int .i64 (c : Int) ∧ h = [.cells g1 48 (List.toArray (Dfa.dC (Dfa.clsV d) (.slice (some ⟨b, o, none⟩) d.next.length d.c) (.slice d.ar d.rules.length d.cr))), .anchor w []]) (fun f _ => (256 - ival (f 5)).toNat) ?_ ?_
  · exact fun w1 hs => ⟨_, hs, 0, X, by omega, by rw [Tb.runs_from], by omega, by (first | (simp -implicitDefEqProofs (disch := omega) only [go_sem]; done) | (simp -implicitDefEqProofs (disch := omega) only [go_sem]; rfl)), by (first | (simp -implicitDefEqProofs (disch := omega) only [go_sem]; done) | (simp -implicitDefEqProofs (disch := omega) only [go_sem]; rfl)), by (first | (simp -implicitDefEqProofs (disch := omega) only [go_sem]; done) | (simp -implicitDefEqProofs (disch := omega) only [go_sem]; rfl)), rfl⟩
  rintro f h ⟨c, s, hc, hs0, hsl, e1, e4, e5, rfl⟩ Q' hQ'
  have hmi : ival (f 5) = (c : Int) := by rw [e5]; rfl
  by_cases hcl2 : c < 256
  · have g0 : (c : Int) < 256 := by omega
    simp -implicitDefEqProofs (disch := omega) only [go_sem, e1, e4, e5, g0, decide_true]
    refine RLoop_intro (fun f h => ∃ (n : Nat), 1 ≤ n ∧ c + n ≤ 256 ∧ (∀ j, j < n → d.cls (c + j) = d.cls c) ∧ f 1 = .pointer (some ⟨g1, 0, none⟩) ∧ f 4 = str s ∧ f 5 = .int .i64 (c : Int) ∧ f 6 = .int .i64 (n : Int) ∧ h = [.cells g1 48 (List.toArray (Dfa.dC (Dfa.clsV d) (.slice (some ⟨b, o, none⟩) d.next.length d.c) (.slice d.ar d.rules.length d.cr))), .anchor w []]) (fun f _ => (256 - ival (f 6)).toNat) ?_ ?_
    · exact ⟨1, by omega, by omega, fun j hj => by rw [show j = 0 by omega]; rfl, by (first | (simp -implicitDefEqProofs (disch := omega) only [go_sem, e1, e4, e5]; done) | (simp -implicitDefEqProofs (disch := omega) only [go_sem, e1, e4, e5]; rfl)), by (first | (simp -implicitDefEqProofs (disch := omega) only [go_sem, e1, e4, e5]; done) | (simp -implicitDefEqProofs (disch := omega) only [go_sem, e1, e4, e5]; rfl)), by (first | (simp -implicitDefEqProofs (disch := omega) only [go_sem, e1, e4, e5]; done) | (simp -implicitDefEqProofs (disch := omega) only [go_sem, e1, e4, e5]; rfl)), by (first | (simp -implicitDefEqProofs (disch := omega) only [go_sem, e1, e4, e5]; done) | (simp -implicitDefEqProofs (disch := omega) only [go_sem, e1, e4, e5]; rfl)), rfl⟩
    clear e1 e4 e5
    rintro f h ⟨n, hn, hcn, hall, e1, e4, e5, e6, rfl⟩ Q2 hQ2
    have hmn : ival (f 6) = (n : Int) := by rw [e6]; rfl
    have hadd : (c : Int) + (n : Int) = ((c + n : Nat) : Int) := by omega
    have hexit : (c + n = 256 ∨ d.cls (c + n) ≠ d.cls c) → ∀ s2, s2 = s ++ (Vint.put (d.cls c)).1 ++ (Vint.put (n : Int)).1 → s2 ++ Tb.fromRun d.cls (c + n) = X ++ Tb.runs d.cls := by
      rintro he s2 rfl
      rw [← hs0, Tb.fromRun_run d.cls c (n - 1) n (by omega) hcn hall he, Tb.put2]
      simp only [List.append_assoc]
    have hpl1 := hwl64 c hcl2
    have hpl2 := Tb.put_len (n := (n : Int)) (by omega)
    have hsl2 : (s ++ (Vint.put (d.cls c)).1).length ≤ 22 + 18 * c + 9 := by rw [List.length_append]; omega
    have hsl3 : (s ++ (Vint.put (d.cls c)).1 ++ (Vint.put (n : Int)).1).length ≤ 22 + 18 * (c + n) := by rw [List.length_append]; omega
    by_cases hlt : c + n < 256
    · have k0 : ((c + n : Nat) : Int) < 256 := by omega
      by_cases hsame : d.cls (c + n) = d.cls c
      · simp -implicitDefEqProofs (disch := omega) only [go_sem, e1, e4, e5, e6, hadd]
        refine RDraw_seg (by kernel_rfl) (by kernel_rfl) 17 rfl ?_
        refine RS_det (by kernel_rfl) ?_
        repeat (first | refine ToO_step (fun Q hq => by (simp -implicitDefEqProofs (disch := omega) only [go_sem, e1, e4, e5, e6, hadd, k0, g0, intsV, hsame, decide_true]; exact hq)) ?_ | refine ToO_guard (by (simp -implicitDefEqProofs only [go_sem, e1, e4, e5, e6, hadd, k0, g0, intsV, hsame, decide_true]; first | done | fail)) (fun Q hq => by (simp -implicitDefEqProofs (disch := omega) only [go_sem, e1, e4, e5, e6, hadd, k0, g0, intsV, hsame, decide_true]; exact hq)) ?_ | refine ToO_skip (.inl (by (simp -implicitDefEqProofs only [go_sem, e1, e4, e5, e6, hadd, k0, g0, intsV, hsame, decide_true]; first | done | fail))) ?_ | refine ToO_skip (.inr (by (simp -implicitDefEqProofs only [go_sem, e1, e4, e5, e6, hadd, k0, g0, intsV, hsame, decide_true]; first | done | fail))) ?_)
        refine ToO_nil ?_
        simp -implicitDefEqProofs (disch := omega) only [go_sem, e1, e4, e5, e6]
        refine hQ2 _ _ _ (fun _ hs => hs) ⟨n + 1, by omega, by omega, fun j hj => ?_, ?_, ?_, ?_, ?_, rfl⟩ ?_
        · rcases Nat.lt_succ_iff_lt_or_eq.1 hj with h | rfl
          · exact hall j h
          · exact hsame
        · (first | (simp -implicitDefEqProofs (disch := omega) only [go_sem, e1, e4, e5, e6]; done) | (simp -implicitDefEqProofs (disch := omega) only [go_sem, e1, e4, e5, e6]; rfl))
        · (first | (simp -implicitDefEqProofs (disch := omega) only [go_sem, e1, e4, e5, e6]; done) | (simp -implicitDefEqProofs (disch := omega) only [go_sem, e1, e4, e5, e6]; rfl))
        · (first | (simp -implicitDefEqProofs (disch := omega) only [go_sem, e1, e4, e5, e6]; done) | (simp -implicitDefEqProofs (disch := omega) only [go_sem, e1, e4, e5, e6]; rfl))
        · (first | (simp -implicitDefEqProofs (disch := omega) only [go_sem, e1, e4, e5, e6]; done) | (simp -implicitDefEqProofs (disch := omega) only [go_sem, e1, e4, e5, e6]; rfl))
        · simp -implicitDefEqProofs (disch := omega) only [go_sem, e1, e4, e5, e6, hmn]; omega
      · simp -implicitDefEqProofs (disch := omega) only [go_sem, e1, e4, e5, e6, hadd]
        refine RDraw_seg (by kernel_rfl) (by kernel_rfl) 17 rfl ?_
        refine RS_det (by kernel_rfl) ?_
        repeat (first | refine ToO_step (fun Q hq => by (simp -implicitDefEqProofs (disch := omega) only [go_sem, e1, e4, e5, e6, hadd, k0, g0, intsV, hsame, decide_true, decide_false]; exact hq)) ?_ | refine ToO_guard (by (simp -implicitDefEqProofs only [go_sem, e1, e4, e5, e6, hadd, k0, g0, intsV, hsame, decide_true, decide_false]; first | done | fail)) (fun Q hq => by (simp -implicitDefEqProofs (disch := omega) only [go_sem, e1, e4, e5, e6, hadd, k0, g0, intsV, hsame, decide_true, decide_false]; exact hq)) ?_ | refine ToO_skip (.inl (by (simp -implicitDefEqProofs only [go_sem, e1, e4, e5, e6, hadd, k0, g0, intsV, hsame, decide_true, decide_false]; first | done | fail))) ?_ | refine ToO_skip (.inr (by (simp -implicitDefEqProofs only [go_sem, e1, e4, e5, e6, hadd, k0, g0, intsV, hsame, decide_true, decide_false]; first | done | fail))) ?_)
        refine ToO_nil ?_
        simp -implicitDefEqProofs (disch := omega) only [go_sem, e1, e4, e5, e6, g0, intsV]
        refine RCall_eq (rtb_put (d.cls c) (hcl c hcl2)) ?_
        simp -implicitDefEqProofs (disch := omega) only [go_sem, e1, e4, e5, e6]
        refine RCall_eq (rtb_put (n : Int) ⟨by omega, by omega⟩) ?_
        simp -implicitDefEqProofs (disch := omega) only [go_sem, e1, e4, e5, e6, hadd]
        refine hQ' _ _ fun w1 hs => ⟨_, hs, ⟨c + n, _, by omega, hexit (.inr hsame) _ rfl, hsl3, ?_, ?_, ?_, rfl⟩, ?_⟩
        · (first | (simp -implicitDefEqProofs (disch := omega) only [go_sem, e1, e4, e5, e6]; done) | (simp -implicitDefEqProofs (disch := omega) only [go_sem, e1, e4, e5, e6]; rfl))
        · (first | (simp -implicitDefEqProofs (disch := omega) only [go_sem, e1, e4, e5, e6]; done) | (simp -implicitDefEqProofs (disch := omega) only [go_sem, e1, e4, e5, e6]; rfl))
        · (first | (simp -implicitDefEqProofs (disch := omega) only [go_sem, e1, e4, e5, e6]; done) | (simp -implicitDefEqProofs (disch := omega) only [go_sem, e1, e4, e5, e6]; rfl))
        · simp -implicitDefEqProofs (disch := omega) only [go_sem, e1, e4, e5, e6, hmi]; omega
    · have k0 : ¬ ((c + n : Nat) : Int) < 256 := by omega
      simp -implicitDefEqProofs (disch := omega) only [go_sem, e1, e4, e5, e6, hadd]
      refine RDraw_seg (by kernel_rfl) (by kernel_rfl) 17 rfl ?_
      refine RS_det (by kernel_rfl) ?_
      repeat (first | refine ToO_step (fun Q hq => by (simp -implicitDefEqProofs (disch := omega) only [go_sem, e1, e4, e5, e6, hadd, k0, decide_false]; exact hq)) ?_ | refine ToO_guard (by (simp -implicitDefEqProofs only [go_sem, e1, e4, e5, e6, hadd, k0, decide_false]; first | done | fail)) (fun Q hq => by (simp -implicitDefEqProofs (disch := omega) only [go_sem, e1, e4, e5, e6, hadd, k0, decide_false]; exact hq)) ?_ | refine ToO_skip (.inl (by (simp -implicitDefEqProofs only [go_sem, e1, e4, e5, e6, hadd, k0, decide_false]; first | done | fail))) ?_ | refine ToO_skip (.inr (by (simp -implicitDefEqProofs only [go_sem, e1, e4, e5, e6, hadd, k0, decide_false]; first | done | fail))) ?_)
      refine ToO_nil ?_
      simp -implicitDefEqProofs (disch := omega) only [go_sem, e1, e4, e5, e6, g0, intsV]
      refine RCall_eq (rtb_put (d.cls c) (hcl c hcl2)) ?_
      simp -implicitDefEqProofs (disch := omega) only [go_sem, e1, e4, e5, e6]
      refine RCall_eq (rtb_put (n : Int) ⟨by omega, by omega⟩) ?_
      simp -implicitDefEqProofs (disch := omega) only [go_sem, e1, e4, e5, e6, hadd]
      refine hQ' _ _ fun w1 hs => ⟨_, hs, ⟨c + n, _, by omega, hexit (.inl (by omega)) _ rfl, hsl3, ?_, ?_, ?_, rfl⟩, ?_⟩
      · (first | (simp -implicitDefEqProofs (disch := omega) only [go_sem, e1, e4, e5, e6]; done) | (simp -implicitDefEqProofs (disch := omega) only [go_sem, e1, e4, e5, e6]; rfl))
      · (first | (simp -implicitDefEqProofs (disch := omega) only [go_sem, e1, e4, e5, e6]; done) | (simp -implicitDefEqProofs (disch := omega) only [go_sem, e1, e4, e5, e6]; rfl))
      · (first | (simp -implicitDefEqProofs (disch := omega) only [go_sem, e1, e4, e5, e6]; done) | (simp -implicitDefEqProofs (disch := omega) only [go_sem, e1, e4, e5, e6]; rfl))
      · simp -implicitDefEqProofs (disch := omega) only [go_sem, e1, e4, e5, e6, hmi]; omega
  have g0 : ¬ (c : Int) < 256 := by omega
  obtain rfl : c = 256 := by omega
  rw [Tb.fromRun_end, List.append_nil] at hs0
  simp -implicitDefEqProofs (disch := omega) only [go_sem, e1, e4, e5, g0, decide_false]
  refine RCall_any fun w1 hs1 => ?_
  have hm1 := hm.keep (hs1.anchor (w0 := w) (S := []) (by simp))
  have hcall := rtb_rows d hR w1 hm1
  rw [hval, hda] at hcall
  refine hcall.mono ?_
  rintro v w2 ⟨rs, hsr, hnr⟩
  obtain ⟨ao, co, aw, cw, ra, rc, rfl, hwl, hx12, hrr, hrw⟩ := ref_still hm1 hsr hnr
  have hs2 := hs1.ext hx12
  have hxw : Ext [] w w2 := hs2.anchor (by simp)
  have hm2 := hm1.keep hx12
  have hbox : w2.cell? ⟨g1, 257, none⟩ = some (.slice d.ar d.rules.length d.cr) := look_sound hs2 (by simp -implicitDefEqProofs (disch := omega) only [go_sem])
  have hg2 : g1 < w2.heap.size := hs2.lt _ List.mem_cons_self g1 rfl
  refine ⟨[.anchor w2 []], Sat.start w2 [], ?_⟩
  clear hcall hnr hsr
  have hRo := Tb.rowsOf d.next
  have hbytes : Tb.bytes d.cls d.next d.rules = X ++ Tb.runs d.cls ++ Tb.putS [((Tb.rowsW d.next).1.length : Int)] ++ (Tb.rowsW d.next).1.flatMap Tb.putS ++ Tb.ends (Tb.rowsW d.next).2 d.rules := by rw [hXX]; rfl
  rw [← hs0] at hbytes
  generalize Tb.rowsW d.next = rw_ at *
  obtain ⟨rows, which⟩ := rw_
  simp only [] at hwl hRo hbytes hrr hrw ⊢
  have hrn := hRo.le
  have hplr := Tb.put_len (n := (rows.length : Int)) (by omega)
  simp -implicitDefEqProofs (disch := omega) only [go_sem, e1, e4, e5]
  refine RCall_eq (rtb_put (rows.length : Int) ⟨by omega, by omega⟩) ?_
  rw [Tb.put1] at hbytes
  obtain ⟨B, hB⟩ : ∃ B, B = s ++ (Vint.put (rows.length : Int)).1 := ⟨_, rfl⟩
  rw [← hB] at hbytes
  have hBl : B.length ≤ 5000 := by rw [hB, List.length_append]; omega
  have hrow : ∀ r ∈ rows, Tb.Plain r ∧ r.length ≤ 256 := fun r hr => by
    have hr' := hRo.mem r hr
    refine ⟨Tb.right_plain hR r hr', ?_⟩
    obtain ⟨i, hi, rfl⟩ := List.getElem_of_mem hr'
    have := hrl i hi
    unfold Dfa.row at this
    rw [List.getD_eq_getElem?_getD, List.getElem?_eq_getElem hi] at this
    exact this
  have hTl : ∀ i, ((rows.take i).flatMap Tb.putS).length ≤ 2304000 := fun i => by
    have := Tb.rows_len (next := d.next) (c := 256) (Tb.right_plain hR) (fun r hr => by
      obtain ⟨i, hi, rfl⟩ := List.getElem_of_mem hr
      have := hrl i hi
      unfold Dfa.row at this
      rw [List.getD_eq_getElem?_getD, List.getElem?_eq_getElem hi] at this
      exact this) (rows.take i) fun r hr => hRo.mem r (List.mem_of_mem_take hr)
    rw [List.length_take] at this
    have h2 : 9 * 256 * min i rows.length ≤ 9 * 256 * 1000 := Nat.mul_le_mul_left _ (by omega)
    omega
  simp -implicitDefEqProofs (disch := omega) only [go_sem, e1, e4, e5]
  rw [← hB]
  refine RLoop_from (fun f h => ∃ (i : Nat), i ≤ rows.length ∧ f 1 = .pointer (some ⟨g1, 0, none⟩) ∧ f 4 = str (B ++ (rows.take i).flatMap Tb.putS) ∧ f 7 = .slice ao rows.length co ∧ f 8 = .slice aw d.next.length cw ∧ f 9 = .int .i64 (i : Int) ∧ h = [.anchor w2 []]) (fun f _ => (rows.length - ival (f 9)).toNat) ?_ ?_
  · exact fun w' hs => ⟨_, hs, 0, by omega, by (first | (simp -implicitDefEqProofs (disch := omega) only [go_sem, e1, e4, e5]; done) | (simp -implicitDefEqProofs (disch := omega) only [go_sem, e1, e4, e5]; rfl)), by rw [List.take_zero, List.flatMap_nil, List.append_nil]; (first | (simp -implicitDefEqProofs (disch := omega) only [go_sem, e1, e4, e5]; done) | (simp -implicitDefEqProofs (disch := omega) only [go_sem, e1, e4, e5]; rfl)), by (first | (simp -implicitDefEqProofs (disch := omega) only [go_sem, e1, e4, e5]; done) | (simp -implicitDefEqProofs (disch := omega) only [go_sem, e1, e4, e5]; rfl)), by (first | (simp -implicitDefEqProofs (disch := omega) only [go_sem, e1, e4, e5]; done) | (simp -implicitDefEqProofs (disch := omega) only [go_sem, e1, e4, e5]; rfl)), by (first | (simp -implicitDefEqProofs (disch := omega) only [go_sem, e1, e4, e5]; done) | (simp -implicitDefEqProofs (disch := omega) only [go_sem, e1, e4, e5]; rfl)), rfl⟩
  clear e1 e4 e5
  rintro f h ⟨i, hi, e1, e4, e7, e8, e9, rfl⟩ Q' hQ'
  have hm9 : ival (f 9) = (i : Int) := by rw [e9]; rfl
  have hTi := hTl i
  obtain ⟨C, hC⟩ : ∃ C, C = B ++ (rows.take i).flatMap Tb.putS := ⟨_, rfl⟩
  rw [← hC] at e4
  have hCl : C.length ≤ 2310000 := by rw [hC, List.length_append]; omega
  by_cases hil : i < rows.length
  · have g0 : (i : Int) < (rows.length : Int) := by omega
    obtain ⟨b3, o3, hao, hb3, hc3⟩ := hrr.at_ i hil
    have hri := hrr.rows i hil
    have htk : (rows.take (i + 1)).flatMap Tb.putS = (rows.take i).flatMap Tb.putS ++ Tb.putS (rows.getD i []) := by
      rw [Dfa.take_succ rows [] i hil, List.flatMap_append]; simp
    have hmemi : rows.getD i [] ∈ rows := by rw [List.getD_eq_getElem?_getD, List.getElem?_eq_getElem hil]; exact List.getElem_mem _
    obtain ⟨hpi, hli⟩ := hrow _ hmemi
    rw [hao] at e7
    generalize hr : rows.getD i [] = r at *
    simp -implicitDefEqProofs (disch := omega) only [go_sem, e1, e4, e7, e8, e9, g0, hc3, hb3, decide_true]
    refine RLoop_intro (fun f h => ∃ (j : Nat), j ≤ r.length ∧ f 1 = .pointer (some ⟨g1, 0, none⟩) ∧ f 4 = str (C ++ Tb.putS (r.take j)) ∧ f 7 = .slice (some ⟨b3, o3, none⟩) rows.length co ∧ f 8 = .slice aw d.next.length cw ∧ f 9 = .int .i64 (i : Int) ∧ f 10 = .int .i64 (j : Int) ∧ h = [.anchor w2 []]) (fun f _ => (r.length - ival (f 10)).toNat) ?_ ?_
    · exact ⟨0, by omega, by (first | (simp -implicitDefEqProofs (disch := omega) only [go_sem, e1, e4, e7, e8, e9]; done) | (simp -implicitDefEqProofs (disch := omega) only [go_sem, e1, e4, e7, e8, e9]; rfl)), by rw [List.take_zero, Tb.putS_nil, List.append_nil]; (first | (simp -implicitDefEqProofs (disch := omega) only [go_sem, e1, e4, e7, e8, e9]; done) | (simp -implicitDefEqProofs (disch := omega) only [go_sem, e1, e4, e7, e8, e9]; rfl)), by (first | (simp -implicitDefEqProofs (disch := omega) only [go_sem, e1, e4, e7, e8, e9]; done) | (simp -implicitDefEqProofs (disch := omega) only [go_sem, e1, e4, e7, e8, e9]; rfl)), by (first | (simp -implicitDefEqProofs (disch := omega) only [go_sem, e1, e4, e7, e8, e9]; done) | (simp -implicitDefEqProofs (disch := omega) only [go_sem, e1, e4, e7, e8, e9]; rfl)), by (first | (simp -implicitDefEqProofs (disch := omega) only [go_sem, e1, e4, e7, e8, e9]; done) | (simp -implicitDefEqProofs (disch := omega) only [go_sem, e1, e4, e7, e8, e9]; rfl)), by (first | (simp -implicitDefEqProofs (disch := omega) only [go_sem, e1, e4, e7, e8, e9]; done) | (simp -implicitDefEqProofs (disch := omega) only [go_sem, e1, e4, e7, e8, e9]; rfl)), rfl⟩
    clear e1 e4 e7 e8 e9
    rintro f h ⟨j, hj, e1, e4, e7, e8, e9, e10, rfl⟩ Q2 hQ2
    have hm10 : ival (f 10) = (j : Int) := by rw [e10]; rfl
    by_cases hjl : j < r.length
    · have j0 : (j : Int) < (r.length : Int) := by omega
      obtain ⟨b4, o4, hra, hb4, hc4⟩ := Dfa.ints_at hri j hjl
      have hx := hpi (r.getD j 0) (by rw [List.getD_eq_getElem?_getD, List.getElem?_eq_getElem hjl]; exact List.getElem_mem _)
      have htk2 : Tb.putS (r.take (j + 1)) = Tb.putS (r.take j) ++ (Vint.put (r.getD j 0)).1 := by rw [Dfa.take_succ r 0 j hjl, Tb.putS_append, Tb.put1]
      have hl1 := Tb.putS_len (r.take j) fun n hn => (hpi n (List.mem_of_mem_take hn)).2
      rw [List.length_take] at hl1
      have hl2 := Tb.put_len hx.2
      have hl3 : (C ++ Tb.putS (r.take j)).length ≤ 2313000 := by rw [List.length_append]; omega
      generalize r.getD j 0 = x at *
      simp -implicitDefEqProofs (disch := omega) only [go_sem, e1, e4, e7, e8, e9, e10, g0, hc3, hb3, hra, j0, hb4, hc4, decide_true]
      refine RCall_eq (rtb_put x ⟨by omega, by omega⟩) ?_
      simp -implicitDefEqProofs (disch := omega) only [go_sem, e1, e4, e7, e8, e9, e10]
      refine hQ2 _ _ _ (fun _ hs => hs) ⟨j + 1, by omega, ?_, ?_, ?_, ?_, ?_, ?_, rfl⟩ ?_
      · (first | (simp -implicitDefEqProofs (disch := omega) only [go_sem, e1, e4, e7, e8, e9, e10]; done) | (simp -implicitDefEqProofs (disch := omega) only [go_sem, e1, e4, e7, e8, e9, e10]; rfl))
      · rw [htk2, ← List.append_assoc]; (first | (simp -implicitDefEqProofs (disch := omega) only [go_sem, e1, e4, e7, e8, e9, e10]; done) | (simp -implicitDefEqProofs (disch := omega) only [go_sem, e1, e4, e7, e8, e9, e10]; rfl))
      · (first | (simp -implicitDefEqProofs (disch := omega) only [go_sem, e1, e4, e7, e8, e9, e10]; done) | (simp -implicitDefEqProofs (disch := omega) only [go_sem, e1, e4, e7, e8, e9, e10]; rfl))
      · (first | (simp -implicitDefEqProofs (disch := omega) only [go_sem, e1, e4, e7, e8, e9, e10]; done) | (simp -implicitDefEqProofs (disch := omega) only [go_sem, e1, e4, e7, e8, e9, e10]; rfl))
      · (first | (simp -implicitDefEqProofs (disch := omega) only [go_sem, e1, e4, e7, e8, e9, e10]; done) | (simp -implicitDefEqProofs (disch := omega) only [go_sem, e1, e4, e7, e8, e9, e10]; rfl))
      · (first | (simp -implicitDefEqProofs (disch := omega) only [go_sem, e1, e4, e7, e8, e9, e10]; done) | (simp -implicitDefEqProofs (disch := omega) only [go_sem, e1, e4, e7, e8, e9, e10]; rfl))
      · simp -implicitDefEqProofs (disch := omega) only [go_sem, e1, e4, e7, e8, e9, e10, hm10]; omega
    have j0 : ¬ (j : Int) < (r.length : Int) := by omega
    rw [List.take_of_length_le (by omega)] at e4
    simp -implicitDefEqProofs (disch := omega) only [go_sem, e1, e4, e7, e8, e9, e10, g0, hc3, hb3, j0, decide_false]
    refine hQ' _ _ fun w3 hs => ⟨_, hs, ⟨i + 1, by omega, ?_, ?_, ?_, ?_, ?_, rfl⟩, ?_⟩
    · (first | (simp -implicitDefEqProofs (disch := omega) only [go_sem, e1, e4, e7, e8, e9, e10]; done) | (simp -implicitDefEqProofs (disch := omega) only [go_sem, e1, e4, e7, e8, e9, e10]; rfl))
    · rw [htk, ← List.append_assoc, ← hC]; (first | (simp -implicitDefEqProofs (disch := omega) only [go_sem, e1, e4, e7, e8, e9, e10]; done) | (simp -implicitDefEqProofs (disch := omega) only [go_sem, e1, e4, e7, e8, e9, e10]; rfl))
    · rw [hao]; (first | (simp -implicitDefEqProofs (disch := omega) only [go_sem, e1, e4, e7, e8, e9, e10]; done) | (simp -implicitDefEqProofs (disch := omega) only [go_sem, e1, e4, e7, e8, e9, e10]; rfl))
    · (first | (simp -implicitDefEqProofs (disch := omega) only [go_sem, e1, e4, e7, e8, e9, e10]; done) | (simp -implicitDefEqProofs (disch := omega) only [go_sem, e1, e4, e7, e8, e9, e10]; rfl))
    · (first | (simp -implicitDefEqProofs (disch := omega) only [go_sem, e1, e4, e7, e8, e9, e10]; done) | (simp -implicitDefEqProofs (disch := omega) only [go_sem, e1, e4, e7, e8, e9, e10]; rfl))
    · simp -implicitDefEqProofs (disch := omega) only [go_sem, e1, e4, e7, e8, e9, e10, hm9]; omega
  have g0 : ¬ (i : Int) < (rows.length : Int) := by omega
  rw [List.take_of_length_le (by omega)] at hC
  rw [← hC] at hbytes
  have hul : d.rules.length = d.next.length := hR.2.2.1
  have hzin : ∀ i, i ≤ d.next.length → ∀ x ∈ (which.zip d.rules).take i, x.1 ≤ 1000 ∧ x.2 + 1 ≤ 32 := fun i hi x hx => by
    obtain ⟨j, hj, rfl⟩ := List.getElem_of_mem (List.mem_of_mem_take hx)
    rw [List.length_zip] at hj
    have h1 := hRo.at_ j (by omega)
    have h2 := hR.2.2.2.2 j (by omega)
    rw [List.getElem_zip]
    have h3 := h2.2.1
    have h4 := h1.2.1
    rw [List.getD_eq_getElem?_getD, List.getElem?_eq_getElem (by omega), Option.getD_some] at h3 h4
    simp only []
    omega
  simp -implicitDefEqProofs (disch := omega) only [go_sem, e1, e4, e7, e8, e9, g0, decide_false]
  refine RLoop_from (fun f h => ∃ (i : Nat), i ≤ d.next.length ∧ f 1 = .pointer (some ⟨g1, 0, none⟩) ∧ f 4 = str (C ++ ((which.zip d.rules).take i).flatMap fun x => Tb.putS [x.1, x.2 + 1]) ∧ f 8 = .slice aw d.next.length cw ∧ f 11 = .int .i64 (i : Int) ∧ h = [.anchor w2 []]) (fun f _ => (d.next.length - ival (f 11)).toNat) ?_ ?_
  · exact fun w' hs => ⟨_, hs, 0, by omega, by (first | (simp -implicitDefEqProofs (disch := omega) only [go_sem, e1, e4, e7, e8, e9]; done) | (simp -implicitDefEqProofs (disch := omega) only [go_sem, e1, e4, e7, e8, e9]; rfl)), by rw [List.take_zero, List.flatMap_nil, List.append_nil]; (first | (simp -implicitDefEqProofs (disch := omega) only [go_sem, e1, e4, e7, e8, e9]; done) | (simp -implicitDefEqProofs (disch := omega) only [go_sem, e1, e4, e7, e8, e9]; rfl)), by (first | (simp -implicitDefEqProofs (disch := omega) only [go_sem, e1, e4, e7, e8, e9]; done) | (simp -implicitDefEqProofs (disch := omega) only [go_sem, e1, e4, e7, e8, e9]; rfl)), by (first | (simp -implicitDefEqProofs (disch := omega) only [go_sem, e1, e4, e7, e8, e9]; done) | (simp -implicitDefEqProofs (disch := omega) only [go_sem, e1, e4, e7, e8, e9]; rfl)), rfl⟩
  clear e1 e4 e7 e8 e9 hm9 g0
  rintro f h ⟨i, hi, e1, e4, e8, e11, rfl⟩ Q' hQ'
  have hm11 : ival (f 11) = (i : Int) := by rw [e11]; rfl
  obtain ⟨D, hD⟩ : ∃ D, D = C ++ ((which.zip d.rules).take i).flatMap fun x => Tb.putS [x.1, x.2 + 1] := ⟨_, rfl⟩
  rw [← hD] at e4
  have hDl : D.length ≤ 2330000 := by
    rw [hD, List.length_append]
    have := ends_len (l := (which.zip d.rules).take i) fun x hx => by have := hzin i hi x hx; omega
    rw [List.length_take] at this
    omega
  by_cases hil : i < d.next.length
  · have g0 : (i : Int) < (d.next.length : Int) := by omega
    have g0' : (i : Int) < (d.rules.length : Int) := by omega
    have hwi := hRo.at_ i hil
    have hri := hR.2.2.2.2 i hil
    have hr1 := hri.1
    have hr2 := hri.2.1
    obtain ⟨b4, o4, hw4, hb4, hc4⟩ := Dfa.ints_at (l := which) (by rw [hwl]; exact hrw) i (by omega)
    obtain ⟨b5, o5, har, hb5, hc5⟩ := Dfa.ints_at hm2.rules i (by omega)
    have htk := zip_take (a := which) (b := d.rules) (i := i) (by omega) (by omega)
    generalize which.getD i 0 = wi at *
    generalize d.rules.getD i 0 = ri at *
    have hq1 := Tb.put_len (n := wi) (by omega)
    have hq2 := Tb.put_len (n := ri + 1) (by omega)
    have hq3 : (D ++ (Vint.put wi).1).length ≤ 2330100 := by rw [List.length_append]; omega
    rw [hw4] at e8
    rw [har] at hbox
    simp -implicitDefEqProofs (disch := omega) only [go_sem, e1, e4, e8, e11, g0, decide_true]
    refine RDraw_seg (by kernel_rfl) (by kernel_rfl) 16 rfl ?_
    refine RS_det (by kernel_rfl) ?_
    repeat (first | refine ToO_step (fun Q hq => by (simp -implicitDefEqProofs (disch := omega) only [go_sem, e1, e4, e8, e11, g0, g0', hb4, hc4, hg2, hbox, hb5, hc5]; exact hq)) ?_ | refine ToO_guard (by (simp -implicitDefEqProofs only [go_sem, e1, e4, e8, e11, g0, g0', hb4, hc4, hg2, hbox, hb5, hc5]; first | done | fail)) (fun Q hq => by (simp -implicitDefEqProofs (disch := omega) only [go_sem, e1, e4, e8, e11, g0, g0', hb4, hc4, hg2, hbox, hb5, hc5]; exact hq)) ?_ | refine ToO_skip (.inl (by (simp -implicitDefEqProofs only [go_sem, e1, e4, e8, e11, g0, g0', hb4, hc4, hg2, hbox, hb5, hc5]; first | done | fail))) ?_ | refine ToO_skip (.inr (by (simp -implicitDefEqProofs only [go_sem, e1, e4, e8, e11, g0, g0', hb4, hc4, hg2, hbox, hb5, hc5]; first | done | fail))) ?_)
    first | refine ToO_step (fun Q hq => by (simp -implicitDefEqProofs (disch := omega) only [go_sem, e1, e4, e8, e11]; refine RCall_eq (rtb_put wi ⟨by omega, by omega⟩) ?_; simp -implicitDefEqProofs (disch := omega) only [go_sem, e1, e4, e8, e11]; exact hq)) ?_ | refine ToO_guard (by (simp -implicitDefEqProofs only [go_sem, e1, e4, e8, e11]; first | done | fail)) (fun Q hq => by (simp -implicitDefEqProofs (disch := omega) only [go_sem, e1, e4, e8, e11]; refine RCall_eq (rtb_put wi ⟨by omega, by omega⟩) ?_; simp -implicitDefEqProofs (disch := omega) only [go_sem, e1, e4, e8, e11]; exact hq)) ?_
    repeat (first | refine ToO_step (fun Q hq => by (simp -implicitDefEqProofs (disch := omega) only [go_sem, e1, e4, e8, e11, g0, g0', hb4, hc4, hg2, hbox, hb5, hc5]; exact hq)) ?_ | refine ToO_guard (by (simp -implicitDefEqProofs only [go_sem, e1, e4, e8, e11, g0, g0', hb4, hc4, hg2, hbox, hb5, hc5]; first | done | fail)) (fun Q hq => by (simp -implicitDefEqProofs (disch := omega) only [go_sem, e1, e4, e8, e11, g0, g0', hb4, hc4, hg2, hbox, hb5, hc5]; exact hq)) ?_ | refine ToO_skip (.inl (by (simp -implicitDefEqProofs only [go_sem, e1, e4, e8, e11, g0, g0', hb4, hc4, hg2, hbox, hb5, hc5]; first | done | fail))) ?_ | refine ToO_skip (.inr (by (simp -implicitDefEqProofs only [go_sem, e1, e4, e8, e11, g0, g0', hb4, hc4, hg2, hbox, hb5, hc5]; first | done | fail))) ?_)
    first | refine ToO_step (fun Q hq => by (simp -implicitDefEqProofs (disch := omega) only [go_sem, e1, e4, e8, e11]; refine RCall_eq (rtb_put (ri + 1) ⟨by omega, by omega⟩) ?_; simp -implicitDefEqProofs (disch := omega) only [go_sem, e1, e4, e8, e11]; exact hq)) ?_ | refine ToO_guard (by (simp -implicitDefEqProofs only [go_sem, e1, e4, e8, e11]; first | done | fail)) (fun Q hq => by (simp -implicitDefEqProofs (disch := omega) only [go_sem, e1, e4, e8, e11]; refine RCall_eq (rtb_put (ri + 1) ⟨by omega, by omega⟩) ?_; simp -implicitDefEqProofs (disch := omega) only [go_sem, e1, e4, e8, e11]; exact hq)) ?_
    repeat (first | refine ToO_step (fun Q hq => by (simp -implicitDefEqProofs (disch := omega) only [go_sem, e1, e4, e8, e11, g0, g0', hb4, hc4, hg2, hbox, hb5, hc5]; exact hq)) ?_ | refine ToO_guard (by (simp -implicitDefEqProofs only [go_sem, e1, e4, e8, e11, g0, g0', hb4, hc4, hg2, hbox, hb5, hc5]; first | done | fail)) (fun Q hq => by (simp -implicitDefEqProofs (disch := omega) only [go_sem, e1, e4, e8, e11, g0, g0', hb4, hc4, hg2, hbox, hb5, hc5]; exact hq)) ?_ | refine ToO_skip (.inl (by (simp -implicitDefEqProofs only [go_sem, e1, e4, e8, e11, g0, g0', hb4, hc4, hg2, hbox, hb5, hc5]; first | done | fail))) ?_ | refine ToO_skip (.inr (by (simp -implicitDefEqProofs only [go_sem, e1, e4, e8, e11, g0, g0', hb4, hc4, hg2, hbox, hb5, hc5]; first | done | fail))) ?_)
    refine ToO_nil ?_
    simp -implicitDefEqProofs (disch := omega) only [go_sem, e1, e4, e8, e11]
    refine hQ' _ _ fun w3 hs => ⟨_, hs, ⟨i + 1, by omega, ?_, ?_, ?_, ?_, rfl⟩, ?_⟩
    · (first | (simp -implicitDefEqProofs (disch := omega) only [go_sem, e1, e4, e8, e11]; done) | (simp -implicitDefEqProofs (disch := omega) only [go_sem, e1, e4, e8, e11]; rfl))
    · rw [htk, List.flatMap_append, ← List.append_assoc, ← hD, List.flatMap_singleton, Tb.put2, ← List.append_assoc]; (first | (simp -implicitDefEqProofs (disch := omega) only [go_sem, e1, e4, e8, e11]; done) | (simp -implicitDefEqProofs (disch := omega) only [go_sem, e1, e4, e8, e11]; rfl))
    · rw [hw4]; (first | (simp -implicitDefEqProofs (disch := omega) only [go_sem, e1, e4, e8, e11]; done) | (simp -implicitDefEqProofs (disch := omega) only [go_sem, e1, e4, e8, e11]; rfl))
    · (first | (simp -implicitDefEqProofs (disch := omega) only [go_sem, e1, e4, e8, e11]; done) | (simp -implicitDefEqProofs (disch := omega) only [go_sem, e1, e4, e8, e11]; rfl))
    · simp -implicitDefEqProofs (disch := omega) only [go_sem, e1, e4, e8, e11, hm11]; omega
  have g0 : ¬ (i : Int) < (d.next.length : Int) := by omega
  have hDe : D = Tb.bytes d.cls d.next d.rules := by
    rw [hD, hbytes, List.take_of_length_le (by rw [List.length_zip]; omega)]; rfl
  have hsl2 := Tb.sumB_len D
  have hlt := (Crc.of D).isLt
  simp -implicitDefEqProofs (disch := omega) only [go_sem, e1, e4, e8, e11, g0, decide_false]
  refine RCall_eq (ref_of D (by omega)) ?_
  simp -implicitDefEqProofs (disch := omega) only [go_sem, e1, e4, e8, e11]
  refine RCall_eq (ref_fixed _ 4 (by omega)) ?_
  rw [tcrc_fix]
  simp -implicitDefEqProofs (disch := omega) only [go_sem, e1, e4, e8, e11]
  rw [← hDe] at hQ
  exact hQ _ _ fun w' hs => ⟨rfl, hxw.trans (hs.anchor (by simp))⟩
theorem rtb_build (d : Dfa.D) (hcl : ∀ i, i < 256 → Tb.In64 (d.cls i)) (w : World) (hm : Dfa.Mem w d) : Does Try.prog 26 #[d.val] w fun v w' => v = .tuple #[str (Tb.build d).1, .int .i64 (Tb.build d).2] ∧ Ext [] w w' := rtb_build0 d w hm
end Go.Proofs.Ytldidoaagijnhaa
