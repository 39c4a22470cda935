/- table's laws: the walk: an automaton in bytes, and its rows. -/
import Derived.Test.YtldidoaagijnhaaTbY
namespace Go.Proofs.Ytldidoaagijnhaa
set_option linter.unusedSimpArgs false
set_option linter.unusedVariables false
open H
set_option maxRecDepth 20000 in
set_option maxHeartbeats 8000000 in
theorem law_builds (d : Dfa.D) (w : World) (hm : Dfa.Mem w d) : Does Try.prog 5 #[d.val] w fun v w' => v = .bool true ∧ Ext [] w w' := by
  rw [val_eq]
  refine does (args := [.agg (List.toArray (Dfa.dC (intsV d.cls .i64) (.slice d.a d.next.length d.c) (.slice d.ar d.rules.length d.cr)))]) Try.func5 rfl (by kernel_rfl) (by kernel_rfl) rfl ent_5 (Sat.start w []) ?_; intro QV hQ
  simp -implicitDefEqProofs (disch := omega) only [go_sem]
  refine RNew_intro fun g1 hg1 => ?_
  have hw1 : w.heap.size ≤ g1 := hg1.1
  simp -implicitDefEqProofs (disch := omega) only [go_sem]
  refine RCall_of (φ := fun v => ∃ b, v = .bool b) (fun w1 hs => by have := dfa_light d w1 (hm.keep (hs.anchor (by simp))); rw [val_eq] at this; exact this) ?_
  rintro _ ⟨lt, rfl⟩
  have hnl := hm.nlen
  simp only [maxLen] at hnl
  by_cases hbig : (100 : Int) < (d.next.length : Int)
  · have hb1 : decide ((100 : Int) < (d.next.length : Int)) = true := decide_eq_true hbig
    cases lt with
    | true =>
      simp -implicitDefEqProofs (disch := omega) only [go_sem, hb1, Bool.not_true]
      refine RCall_eq law_known ?_
      simp -implicitDefEqProofs (disch := omega) only [go_sem]
      exact hQ _ _ fun w' hs => ⟨rfl, hs.anchor (by simp)⟩
    | false =>
      simp -implicitDefEqProofs (disch := omega) only [go_sem, hb1, Bool.not_false]
      refine RCall_eq law_known ?_
      simp -implicitDefEqProofs (disch := omega) only [go_sem]
      exact hQ _ _ fun w' hs => ⟨rfl, hs.anchor (by simp)⟩
  have hb1 : decide ((100 : Int) < (d.next.length : Int)) = false := decide_eq_false hbig
  cases lt with
  | false =>
    simp -implicitDefEqProofs (disch := omega) only [go_sem, hb1, Bool.not_false]
    refine RCall_eq law_known ?_
    simp -implicitDefEqProofs (disch := omega) only [go_sem]
    exact hQ _ _ fun w' hs => ⟨rfl, hs.anchor (by simp)⟩
  | true =>
  have hm3 := fun w1 (hx : Ext [] w w1) => hm.keep hx
  simp -implicitDefEqProofs (disch := omega) only [go_sem, hb1, Bool.not_true]
  refine RCall_eqS (fun w1 hs => by have := tb_build0 d w1 (hm.keep (hs.anchor (by simp))); rw [val_eq] at this; exact this) ?_
  simp -implicitDefEqProofs (disch := omega) only [go_sem]
  refine RCall_eqS (fun w1 hs => by have := rtb_build0 d w1 (hm.keep (hs.anchor (by simp))); rw [val_eq] at this; exact this) ?_
  simp -implicitDefEqProofs (disch := omega) only [go_sem]
  by_cases hR : Dfa.Right d
  rotate_left
  · refine RCall_eqS (fun w1 hs => by have := tb_rows0 d hR w1 (hm.keep (hs.anchor (by simp))); rw [val_eq] at this; exact this) ?_
    simp -implicitDefEqProofs (disch := omega) only [go_sem]
    refine RCall_eqS (fun w1 hs => by have := rtb_rows0 d hR w1 (hm.keep (hs.anchor (by simp))); rw [val_eq] at this; exact this) ?_
    simp -implicitDefEqProofs (disch := omega) only [go_sem, decide_true, Bool.not_true]
    refine RCall_eqS (u := .bool true) (fun w1 hs => ?_) ?_
    · have := ref_ints [] [] none none 0 0 (by simp) (by simp) w1 (fun h => absurd h (by simp)) (fun h => absurd h (by simp))
      rw [decide_eq_true rfl] at this
      exact this
    have z0 : decide (((0 : Nat) : Int) = ((0 : Nat) : Int)) = true := decide_eq_true rfl
    have z1 : ¬ ((0 : Nat) : Int) < ((0 : Nat) : Int) := by omega
    simp -implicitDefEqProofs (disch := omega) only [go_sem, z0, decide_true, Bool.not_true]
    refine RLoop_intro (fun f h => f 1 = .pointer (some ⟨g1, 0, none⟩) ∧ f 5 = str (Tb.build d).1 ∧ f 7 = .slice none 0 0 ∧ f 9 = .slice none 0 0 ∧ f 11 = .int .i64 0 ∧ h = [.cells g1 48 (List.toArray (Dfa.dC (intsV d.cls .i64) (.slice d.a d.next.length d.c) (.slice d.ar d.rules.length d.cr))), .anchor w []]) (fun _ _ => 0) ?_ ?_
    · exact ⟨by (first | (simp -implicitDefEqProofs (disch := omega) only [go_sem]; done) | (simp -implicitDefEqProofs (disch := omega) only [go_sem]; rfl)), by (first | (simp -implicitDefEqProofs (disch := omega) only [go_sem]; done) | (simp -implicitDefEqProofs (disch := omega) only [go_sem]; rfl)), by (first | (simp -implicitDefEqProofs (disch := omega) only [go_sem]; done) | (simp -implicitDefEqProofs (disch := omega) only [go_sem]; rfl)), by (first | (simp -implicitDefEqProofs (disch := omega) only [go_sem]; done) | (simp -implicitDefEqProofs (disch := omega) only [go_sem]; rfl)), by (first | (simp -implicitDefEqProofs (disch := omega) only [go_sem]; done) | (simp -implicitDefEqProofs (disch := omega) only [go_sem]; rfl)), rfl⟩
    rintro f h ⟨e1, e5, e7, e9, e11, rfl⟩ Q' hQ'
    have z2 : decide ((0 : Int) < ((0 : Nat) : Int)) = false := rfl
    simp -implicitDefEqProofs (disch := omega) only [go_sem, e1, e5, e7, e9, e11, z2]
    refine RCall_eqS (fun w1 hs => by have := tb_build0 d w1 (hm.keep (hs.anchor (by simp))); rw [val_eq] at this; exact this) ?_
    simp -implicitDefEqProofs (disch := omega) only [go_sem, e1, e5, e7, e9, e11, decide_true]
    refine RCall_eq law_known ?_
    simp -implicitDefEqProofs (disch := omega) only [go_sem]
    exact hQ _ _ fun w' hs => ⟨rfl, hs.anchor (by simp)⟩
  have hRo := Tb.rowsOf d.next
  have hn1 : 1 ≤ d.next.length := hR.1
  refine RCall_newS (fun w1 hs => by have := tb_rows d hR w1 (hm.keep (hs.anchor (by simp))); rw [val_eq] at this; exact this) ?_
  rintro _ _ ⟨ao, co, gw, vs, rfl, hco, hwl, rfl⟩ ⟨w9, h9⟩
  have ngw : g1 ≠ gw := fun e => h9.2.2.2.2.2.1 (.cells g1 48 (List.toArray (Dfa.dC (intsV d.cls .i64) (.slice d.a d.next.length d.c) (.slice d.ar d.rules.length d.cr)))) (by simp) gw rfl e.symm
  clear h9
  simp -implicitDefEqProofs (disch := omega) only [go_sem, hsetN_ne, ngw, Ne.symm ngw]
  refine RCall_new (fun w1 hs => by have := rtb_rows d hR w1 (hm.keep (hs.anchor (by simp))); rw [val_eq] at this; exact this) ?_
  rintro _ _ ⟨ay, cy, am, cm, ixs, rfl, _, hrix, hix, rfl⟩
  generalize Tb.rowsW d.next = rw_ at *
  obtain ⟨rows, which⟩ := rw_
  simp only [] at hRo hco hwl hrix
  simp only [List.cons_append, List.nil_append]
  obtain ⟨n, hn⟩ : ∃ n, n = rows.length := ⟨_, rfl⟩
  rw [← hn] at hco ⊢
  have hnp : 1 ≤ n := by have := hRo.at_ 0 (by omega); omega
  have hn100 : n ≤ 1000 := by have := hRo.le; have := hR.2.1; omega
  have hixl : ixs.length = n := by rw [hn, hrix, List.length_map]
  have hrk : ∀ k, k < n → rows.getD k [] = Dfa.row d (ixs.getD k 0) := fun k hk => by rw [hrix]; exact getD_map _ _ _ _ _ (by omega)
  have hixk : ∀ k, k < n → ixs.getD k 0 < d.next.length := fun k hk => hix _ (by rw [List.getD_eq_getElem?_getD, List.getElem?_eq_getElem (by omega)]; exact List.getElem_mem _)
  have hrl : ∀ k, k < n → 1 ≤ (rows.getD k []).length ∧ (rows.getD k []).length ≤ 256 := fun k hk => by
    rw [hrk k hk]
    have h1 := Dfa.classes_ok d hR.2.2.2.1
    have := (hR.2.2.2.2 _ (hixk k hk)).2.2.1
    omega
  have hwl2 : which.length ≤ 1000 := by have := hR.2.1; omega
  simp -implicitDefEqProofs (disch := omega) only [go_sem, decide_true, Bool.not_true]
  refine RCall_eqS (u := .bool true) (fun w1 hs => ?_) ?_
  · have h1 := iv_rd (t := 3) (g := gw) (l := which) hs (by simp)
    have h2 : w1.ownsRow 0 3 1 (.slice am d.next.length cm) d.next.length (iv which) := hs.mem (Own 3 1 (.slice am d.next.length cm) d.next.length (iv which)) (by simp)
    rw [← hwl] at h2
    have h3 : Rd w1 am which.length 1 (Dfa.ints which) := by
      refine rd_own (e := 3) (c := cm) ?_ fun _ _ => rfl
      rw [flat_ints]; exact h2
    have := ref_ints which which (some ⟨gw, 0, none⟩) am which.length cm (by omega) (by omega) w1 h1 h3
    rw [decide_eq_true rfl, hwl] at this
    exact this
  simp -implicitDefEqProofs (disch := omega) only [go_sem, decide_true, Bool.not_true]
  refine RLoop_from (fun f h => ∃ (i gx gy : Nat) (cx cy : Nat) (sx sy : List Value), i ≤ n ∧ (∀ k, k < n → ∃ g c, vs k = .slice (some ⟨g, 0, none⟩) (rows.getD k []).length c) ∧ gy ≠ gx ∧ g1 ≠ gx ∧ g1 ≠ gy ∧ f 1 = .pointer (some ⟨g1, 0, none⟩) ∧ f 5 = str (Tb.build d).1 ∧ f 7 = .slice (some ⟨gx, 0, none⟩) n cx ∧ f 9 = .slice (some ⟨gy, 0, none⟩) n cy ∧ f 11 = .int .i64 (i : Int) ∧
    h = [.cells gx 46 (List.toArray ((List.range n).map vs ++ sx)), RowsOwn 3 (fun k => i ≤ k ∧ k < n) vs (fun k => iv (rows.getD k [])), .cells gy 46 (List.toArray (((List.range n).map fun k => rv d (ixs.getD k 0)) ++ sy)), .cells g1 48 (List.toArray (Dfa.dC (intsV d.cls .i64) (.slice d.a d.next.length d.c) (.slice d.ar d.rules.length d.cr))), .anchor w []]) (fun f _ => (n - ival (f 11)).toNat) ?_ ?_
  · intro w1 hs
    have ox : w1.ownsRow 0 46 1 (.slice ao n co) n ((List.range n).map vs) := hs.mem (Own 46 1 (.slice ao n co) n ((List.range n).map vs)) (by simp)
    have oy : w1.ownsRow 0 46 1 (.slice ay n cy) n ((List.range n).map fun k => rv d (ixs.getD k 0)) := hs.mem (Own 46 1 (.slice ay n cy) n ((List.range n).map fun k => rv d (ixs.getD k 0))) (by simp)
    have or_ : RowsP 3 (fun k => k < n) vs (fun k => iv (rows.getD k [])) w1 := hs.mem (RowsOwn 3 (fun k => k < n) vs (fun k => iv (rows.getD k []))) (by simp)
    obtain ⟨gx, cx, hx⟩ := own_some ox (by omega)
    obtain ⟨gy, cy', hy⟩ := own_some oy (by omega)
    injection hx with hx1 hx2 hx3
    injection hy with hy1 hy2 hy3
    subst hx1 hx3 hy1 hy3
    obtain ⟨sy, h2, _⟩ := Sat.own_cells hs
    have h3 := Sat.perm (List.perm_middle (l₁ := [_, _])) h2
    obtain ⟨sx, h4, _⟩ := Sat.own_cells h3
    simp only [List.cons_append, List.nil_append] at h4
    have h5 : Sat w1 [.cells gx 46 (List.toArray ((List.range n).map vs ++ sx)), .cells gy 46 (List.toArray (((List.range n).map fun k => rv d (ixs.getD k 0)) ++ sy)), RowsOwn 3 (fun k => k < n) vs (fun k => iv (rows.getD k [])), .cells g1 48 (List.toArray (Dfa.dC (intsV d.cls .i64) (.slice d.a d.next.length d.c) (.slice d.ar d.rules.length d.cr))), .anchor w []] := by
      refine Sat.sub ?_ h4
      exact .cons_cons _ (.cons_cons _ (.cons _ (.cons _ (List.Sublist.refl _))))
    have hS : (fun k => 0 ≤ k ∧ k < n) = fun k => k < n := by funext k; exact propext (by omega)
    refine ⟨_, ?_, 0, gx, gy, co, cy, sx, sy, by omega, fun k hk => ?_, ?_, ?_, ?_, by (first | (simp -implicitDefEqProofs (disch := omega) only [go_sem]; done) | (simp -implicitDefEqProofs (disch := omega) only [go_sem]; rfl)), by (first | (simp -implicitDefEqProofs (disch := omega) only [go_sem]; done) | (simp -implicitDefEqProofs (disch := omega) only [go_sem]; rfl)), by (first | (simp -implicitDefEqProofs (disch := omega) only [go_sem]; done) | (simp -implicitDefEqProofs (disch := omega) only [go_sem]; rfl)), by (first | (simp -implicitDefEqProofs (disch := omega) only [go_sem]; done) | (simp -implicitDefEqProofs (disch := omega) only [go_sem]; rfl)), by (first | (simp -implicitDefEqProofs (disch := omega) only [go_sem]; done) | (simp -implicitDefEqProofs (disch := omega) only [go_sem]; rfl)), rfl⟩
    · rw [hS]
      exact Sat.perm (List.Perm.cons _ (List.Perm.swap _ _ _)) h5
    · obtain ⟨g, c, h⟩ := own_some (or_.1 k hk) (by rw [iv_len]; have := (hrl k hk).1; omega)
      exact ⟨g, c, by rw [h, iv_len]⟩
    · exact fun e => h5.2.2.1 (.cells gy 46 (List.toArray (((List.range n).map fun k => rv d (ixs.getD k 0)) ++ sy))) (by simp) gx rfl e.symm
    · exact fun e => h5.2.2.1 (.cells g1 48 (List.toArray (Dfa.dC (intsV d.cls .i64) (.slice d.a d.next.length d.c) (.slice d.ar d.rules.length d.cr)))) (by simp) gx rfl e.symm
    · exact fun e => h5.2.2.2.2.2.1 (.cells g1 48 (List.toArray (Dfa.dC (intsV d.cls .i64) (.slice d.a d.next.length d.c) (.slice d.ar d.rules.length d.cr)))) (by simp) gy rfl e.symm
  rintro f h ⟨i, gx, gy, cx, cy, sx, sy, hi, hvs, nyx, n1x, n1y, e1, e5, e7, e9, e11, rfl⟩ Q' hQ'
  have hmi : ival (f 11) = (i : Int) := by rw [e11]; rfl
  by_cases hil : i < n
  rotate_left
  · have g0 : ¬ (i : Int) < (n : Int) := by omega
    simp -implicitDefEqProofs (disch := omega) only [go_sem, e1, e5, e7, e9, e11, hsetN_ne, nyx, Ne.symm nyx, n1x, Ne.symm n1x, n1y, Ne.symm n1y, g0, decide_false]
    refine RCall_eqS (fun w1 hs => by have := tb_build0 d w1 (hm.keep (hs.anchor (by simp))); rw [val_eq] at this; exact this) ?_
    simp -implicitDefEqProofs (disch := omega) only [go_sem, e1, e5, e7, e9, e11, decide_true]
    refine RCall_eq law_known ?_
    simp -implicitDefEqProofs (disch := omega) only [go_sem]
    exact hQ _ _ fun w' hs => ⟨rfl, hs.anchor (by simp)⟩
  have g0 : (i : Int) < (n : Int) := by omega
  obtain ⟨gi, ci, hvi⟩ := hvs i hil
  obtain ⟨hl1, hl2⟩ := hrl i hil
  have hxi : ((List.range n).map vs ++ sx)[i]? = some (vs i) := by
    rw [List.getElem?_append_left (by simpa using hil), List.getElem?_map, List.getElem?_range hil]; rfl
  have hyi : (((List.range n).map fun k => rv d (ixs.getD k 0)) ++ sy)[i]? = some (rv d (ixs.getD i 0)) := by
    rw [List.getElem?_append_left (by simpa using hil), List.getElem?_map, List.getElem?_range hil]; rfl
  have hyv : rv d (ixs.getD i 0) = .slice (d.ra (ixs.getD i 0)) (Dfa.row d (ixs.getD i 0)).length (d.rc (ixs.getD i 0)) := rfl
  rw [hvi] at hxi
  rw [hyv] at hyi
  have hrki := hrk i hil
  have hjl := hixk i hil
  have hints : ∀ w3, Sat w3 [.cells gx 46 (List.toArray ((List.range n).map vs ++ sx)), RowsOwn 3 (fun k => i ≤ k ∧ k < n) vs (fun k => iv (rows.getD k [])), .cells gy 46 (List.toArray (((List.range n).map fun k => rv d (ixs.getD k 0)) ++ sy)), .cells g1 48 (List.toArray (Dfa.dC (intsV d.cls .i64) (.slice d.a d.next.length d.c) (.slice d.ar d.rules.length d.cr))), .anchor w []] → Does Try.prog 29 #[.slice (some ⟨gi, 0, none⟩) (rows.getD i []).length ci, .slice (d.ra (ixs.getD i 0)) (Dfa.row d (ixs.getD i 0)).length (d.rc (ixs.getD i 0))] w3 fun v w' => v = .bool true ∧ Ext [] w3 w' := fun w3 hs => by
    have hp : RowsP 3 (fun k => i ≤ k ∧ k < n) vs (fun k => iv (rows.getD k [])) w3 := hs.mem (RowsOwn 3 (fun k => i ≤ k ∧ k < n) vs (fun k => iv (rows.getD k []))) (by simp)
    obtain ⟨a, c, hv, _, hr, _⟩ := rows_rd hp i ⟨by omega, hil⟩
    rw [hvi, iv_len] at hv
    injection hv with hv1 hv2 hv3
    subst hv1
    have := ref_ints (rows.getD i []) (Dfa.row d (ixs.getD i 0)) (some ⟨gi, 0, none⟩) (d.ra (ixs.getD i 0)) ci (d.rc (ixs.getD i 0)) (by omega) (by rw [← hrki]; omega) w3 (rd_iv hr) ((hm.keep (hs.anchor (by simp))).rows _ hjl)
    rw [decide_eq_true hrki] at this
    exact this
  simp -implicitDefEqProofs (disch := omega) only [go_sem, e1, e5, e7, e9, e11, g0, decide_true]
  refine RDraw_seg (by kernel_rfl) (by kernel_rfl) 10 rfl ?_
  refine RS_det (by kernel_rfl) ?_
  repeat (first | refine ToO_step (fun Q hq => by (simp -implicitDefEqProofs (disch := omega) only [go_sem, e1, e5, e7, e9, e11, hsetN_ne, nyx, Ne.symm nyx, n1x, Ne.symm n1x, n1y, Ne.symm n1y, g0, List.getElem?_toArray, hxi, hyi]; exact hq)) ?_ | refine ToO_guard (by (simp -implicitDefEqProofs only [go_sem, e1, e5, e7, e9, e11, hsetN_ne, nyx, Ne.symm nyx, n1x, Ne.symm n1x, n1y, Ne.symm n1y, g0, List.getElem?_toArray, hxi, hyi]; first | done | fail)) (fun Q hq => by (simp -implicitDefEqProofs (disch := omega) only [go_sem, e1, e5, e7, e9, e11, hsetN_ne, nyx, Ne.symm nyx, n1x, Ne.symm n1x, n1y, Ne.symm n1y, g0, List.getElem?_toArray, hxi, hyi]; exact hq)) ?_ | refine ToO_skip (.inl (by (simp -implicitDefEqProofs only [go_sem, e1, e5, e7, e9, e11, hsetN_ne, nyx, Ne.symm nyx, n1x, Ne.symm n1x, n1y, Ne.symm n1y, g0, List.getElem?_toArray, hxi, hyi]; first | done | fail))) ?_ | refine ToO_skip (.inr (by (simp -implicitDefEqProofs only [go_sem, e1, e5, e7, e9, e11, hsetN_ne, nyx, Ne.symm nyx, n1x, Ne.symm n1x, n1y, Ne.symm n1y, g0, List.getElem?_toArray, hxi, hyi]; first | done | fail))) ?_)
  first | refine ToO_step (fun Q hq => by (simp -implicitDefEqProofs (disch := omega) only [go_sem, e1, e5, e7, e9, e11]; refine RCall_eqS (hints) ?_; simp -implicitDefEqProofs (disch := omega) only [go_sem, e1, e5, e7, e9, e11]; exact hq)) ?_ | refine ToO_guard (by (simp -implicitDefEqProofs only [go_sem, e1, e5, e7, e9, e11]; first | done | fail)) (fun Q hq => by (simp -implicitDefEqProofs (disch := omega) only [go_sem, e1, e5, e7, e9, e11]; refine RCall_eqS (hints) ?_; simp -implicitDefEqProofs (disch := omega) only [go_sem, e1, e5, e7, e9, e11]; exact hq)) ?_
  repeat (first | refine ToO_step (fun Q hq => by (simp -implicitDefEqProofs (disch := omega) only [go_sem, e1, e5, e7, e9, e11, Bool.not_true]; exact hq)) ?_ | refine ToO_guard (by (simp -implicitDefEqProofs only [go_sem, e1, e5, e7, e9, e11, Bool.not_true]; first | done | fail)) (fun Q hq => by (simp -implicitDefEqProofs (disch := omega) only [go_sem, e1, e5, e7, e9, e11, Bool.not_true]; exact hq)) ?_ | refine ToO_skip (.inl (by (simp -implicitDefEqProofs only [go_sem, e1, e5, e7, e9, e11, Bool.not_true]; first | done | fail))) ?_ | refine ToO_skip (.inr (by (simp -implicitDefEqProofs only [go_sem, e1, e5, e7, e9, e11, Bool.not_true]; first | done | fail))) ?_)
  refine ToO_nil ?_
  simp -implicitDefEqProofs (disch := omega) only [go_sem]
  refine RLoop_from (fun f h => ∃ (j : Nat) (r' : List Int) (sp : List Value), r'.length = (rows.getD i []).length ∧ j ≤ (rows.getD i []).length ∧ gi ≠ gx ∧ f 1 = .pointer (some ⟨g1, 0, none⟩) ∧ f 5 = str (Tb.build d).1 ∧ f 7 = .slice (some ⟨gx, 0, none⟩) n cx ∧ f 9 = .slice (some ⟨gy, 0, none⟩) n cy ∧ f 11 = .int .i64 (i : Int) ∧ f 12 = .int .i64 (j : Int) ∧
    h = [.cells gx 46 (List.toArray ((List.range n).map vs ++ sx)), .cells gi 3 (List.toArray (iv r' ++ sp)), RowsOwn 3 (fun k => i + 1 ≤ k ∧ k < n) vs (fun k => iv (rows.getD k [])), .cells gy 46 (List.toArray (((List.range n).map fun k => rv d (ixs.getD k 0)) ++ sy)), .cells g1 48 (List.toArray (Dfa.dC (intsV d.cls .i64) (.slice d.a d.next.length d.c) (.slice d.ar d.rules.length d.cr))), .anchor w []]) (fun f _ => ((rows.getD i []).length - ival (f 12)).toNat) ?_ ?_
  · intro w1 hs
    have h1 := Sat.rows_split i (S := fun k => i ≤ k ∧ k < n) ⟨Nat.le_refl _, hil⟩ (Sat.swap2 hs)
    rw [hvi, iv_len] at h1
    obtain ⟨sp, h2, _⟩ := Sat.own_cells h1
    have hS : (fun k => (i ≤ k ∧ k < n) ∧ k ≠ i) = fun k => i + 1 ≤ k ∧ k < n := by funext k; exact propext (by omega)
    rw [hS] at h2
    have h3 := Sat.perm (List.perm_middle (l₁ := [_, _])) h2
    simp only [List.cons_append, List.nil_append] at h3
    refine ⟨_, h3, 0, rows.getD i [], sp, rfl, by omega, fun e => ?_, by (first | (simp -implicitDefEqProofs (disch := omega) only [go_sem, e1, e5, e7, e9, e11]; done) | (simp -implicitDefEqProofs (disch := omega) only [go_sem, e1, e5, e7, e9, e11]; rfl)), by (first | (simp -implicitDefEqProofs (disch := omega) only [go_sem, e1, e5, e7, e9, e11]; done) | (simp -implicitDefEqProofs (disch := omega) only [go_sem, e1, e5, e7, e9, e11]; rfl)), by (first | (simp -implicitDefEqProofs (disch := omega) only [go_sem, e1, e5, e7, e9, e11]; done) | (simp -implicitDefEqProofs (disch := omega) only [go_sem, e1, e5, e7, e9, e11]; rfl)), by (first | (simp -implicitDefEqProofs (disch := omega) only [go_sem, e1, e5, e7, e9, e11]; done) | (simp -implicitDefEqProofs (disch := omega) only [go_sem, e1, e5, e7, e9, e11]; rfl)), by (first | (simp -implicitDefEqProofs (disch := omega) only [go_sem, e1, e5, e7, e9, e11]; done) | (simp -implicitDefEqProofs (disch := omega) only [go_sem, e1, e5, e7, e9, e11]; rfl)), by (first | (simp -implicitDefEqProofs (disch := omega) only [go_sem, e1, e5, e7, e9, e11]; done) | (simp -implicitDefEqProofs (disch := omega) only [go_sem, e1, e5, e7, e9, e11]; rfl)), rfl⟩
    exact h3.2.2.1 (.cells gi 3 (List.toArray (iv (rows.getD i []) ++ sp))) (by simp) gx rfl e.symm
  clear e1 e5 e7 e9 e11 hints
  rintro f h ⟨j, r', sp, hr', hj, nix, e1, e5, e7, e9, e11, e12, rfl⟩ Q2 hQ2
  have hmj : ival (f 12) = (j : Int) := by rw [e12]; rfl
  by_cases hjl2 : j < (rows.getD i []).length
  · have j0 : (j : Int) < ((rows.getD i []).length : Int) := by omega
    have hset : (iv r' ++ sp).set j (.int .i64 (-9)) = iv (r'.set j (-9)) ++ sp := by
      rw [List.set_append_left _ _ (by rw [iv_len]; omega), iv_set]
    have hjs : j < (iv r' ++ sp).length := by rw [List.length_append, iv_len]; omega
    simp -implicitDefEqProofs (disch := omega) only [go_sem, e1, e5, e7, e9, e11, e12, hsetN_ne, nyx, Ne.symm nyx, n1x, Ne.symm n1x, n1y, Ne.symm n1y, g0, List.getElem?_toArray, hxi, j0, nix, decide_true]
    rw [hset]
    refine hQ2 _ _ fun w1 hs => ⟨_, hs, ⟨j + 1, r'.set j (-9), sp, by rw [List.length_set, hr'], by omega, nix, ?_, ?_, ?_, ?_, ?_, ?_, rfl⟩, ?_⟩
    · (first | (simp -implicitDefEqProofs (disch := omega) only [go_sem, e1, e5, e7, e9, e11, e12]; done) | (simp -implicitDefEqProofs (disch := omega) only [go_sem, e1, e5, e7, e9, e11, e12]; rfl))
    · (first | (simp -implicitDefEqProofs (disch := omega) only [go_sem, e1, e5, e7, e9, e11, e12]; done) | (simp -implicitDefEqProofs (disch := omega) only [go_sem, e1, e5, e7, e9, e11, e12]; rfl))
    · (first | (simp -implicitDefEqProofs (disch := omega) only [go_sem, e1, e5, e7, e9, e11, e12]; done) | (simp -implicitDefEqProofs (disch := omega) only [go_sem, e1, e5, e7, e9, e11, e12]; rfl))
    · (first | (simp -implicitDefEqProofs (disch := omega) only [go_sem, e1, e5, e7, e9, e11, e12]; done) | (simp -implicitDefEqProofs (disch := omega) only [go_sem, e1, e5, e7, e9, e11, e12]; rfl))
    · (first | (simp -implicitDefEqProofs (disch := omega) only [go_sem, e1, e5, e7, e9, e11, e12]; done) | (simp -implicitDefEqProofs (disch := omega) only [go_sem, e1, e5, e7, e9, e11, e12]; rfl))
    · (first | (simp -implicitDefEqProofs (disch := omega) only [go_sem, e1, e5, e7, e9, e11, e12]; done) | (simp -implicitDefEqProofs (disch := omega) only [go_sem, e1, e5, e7, e9, e11, e12]; rfl))
    · simp -implicitDefEqProofs (disch := omega) only [go_sem, e1, e5, e7, e9, e11, e12, hmj]; omega
  have j0 : ¬ (j : Int) < ((rows.getD i []).length : Int) := by omega
  simp -implicitDefEqProofs (disch := omega) only [go_sem, e1, e5, e7, e9, e11, e12, hsetN_ne, nyx, Ne.symm nyx, n1x, Ne.symm n1x, n1y, Ne.symm n1y, g0, List.getElem?_toArray, hxi, j0, decide_false]
  refine hQ' _ _ fun w1 hs => ⟨_, ?_, ⟨i + 1, gx, gy, cx, cy, sx, sy, by omega, hvs, nyx, n1x, n1y, ?_, ?_, ?_, ?_, ?_, rfl⟩, ?_⟩
  · refine Sat.sub ?_ hs
    exact .cons_cons _ (.cons _ (List.Sublist.refl _))
  · (first | (simp -implicitDefEqProofs (disch := omega) only [go_sem, e1, e5, e7, e9, e11, e12]; done) | (simp -implicitDefEqProofs (disch := omega) only [go_sem, e1, e5, e7, e9, e11, e12]; rfl))
  · (first | (simp -implicitDefEqProofs (disch := omega) only [go_sem, e1, e5, e7, e9, e11, e12]; done) | (simp -implicitDefEqProofs (disch := omega) only [go_sem, e1, e5, e7, e9, e11, e12]; rfl))
  · (first | (simp -implicitDefEqProofs (disch := omega) only [go_sem, e1, e5, e7, e9, e11, e12]; done) | (simp -implicitDefEqProofs (disch := omega) only [go_sem, e1, e5, e7, e9, e11, e12]; rfl))
  · (first | (simp -implicitDefEqProofs (disch := omega) only [go_sem, e1, e5, e7, e9, e11, e12]; done) | (simp -implicitDefEqProofs (disch := omega) only [go_sem, e1, e5, e7, e9, e11, e12]; rfl))
  · (first | (simp -implicitDefEqProofs (disch := omega) only [go_sem, e1, e5, e7, e9, e11, e12]; done) | (simp -implicitDefEqProofs (disch := omega) only [go_sem, e1, e5, e7, e9, e11, e12]; rfl))
  · simp -implicitDefEqProofs (disch := omega) only [go_sem, e1, e5, e7, e9, e11, e12, hmi]; omega
end Go.Proofs.Ytldidoaagijnhaa
