/- points' reference: the walk: points picked. -/
import Derived.Test.YtjcchmlideknpaaPtV
namespace Go.Proofs.Ytjcchmlideknpaa
set_option linter.unusedSimpArgs false
set_option linter.unusedVariables false
namespace H
open Go
/-- append(v, x...) onto a row of one's own. -/
theorem RRun_append_rows {P : Program} {t e e' ty : TypeId} {z b g n c gn m c2 : Nat} {d : Option Nat} {ops rest : List Oper} {s : List Kn} {f : Fr} {h h' : List Res} {Q : Exit → Fr → List Res → Prop} {xs sp news : List Value} (ht : slT P t e z b)
    (hh : ∀ w, Sat w h → Sat w (.cells g e (xs ++ sp).toArray :: h')) (hm : .cells gn e' news.toArray ∈ h) (h1 : ∀ u ∈ news, u.oneCell' = true) (hn : xs.length = n * z) (hc : (xs ++ sp).length = c * z) (hnc : n ≤ c) (hl : news.length = m * z) (hbytes : (n + m) * b ≤ 140737488355328) (h63 : n + m ≤ maxLen)
    (hk : ∀ g' c' sp', (g' = g ∨ below g' h) → (xs ++ news ++ sp').length = c' * z → n + m ≤ c' → RL P ops rest s (put f d (.slice (some ⟨g', 0, none⟩) (n + m) c')) (.cells g' e (xs ++ news ++ sp').toArray :: h') Q) :
    RRun P (sAppend #[t, t] ty #[.slice (some ⟨g, 0, none⟩) n c, .slice (some ⟨gn, 0, none⟩) m c2]) ⟨d, ops, rest, s⟩ f h Q := by
  intro w hw0
  have hw := hh w hw0
  obtain ⟨i, zv, ht1, ht2, ht3, rfl, rfl, hzs, hz0⟩ := ht
  have hnews : ∀ j u, news[j]? = some u → w.cell? ((⟨gn, 0, none⟩ : Addr).add j) = some u := by
    intro j u hu
    rw [add_at, cell_cells (hw0.mem _ hm) rfl, if_pos rfl, Nat.zero_add, List.getElem?_toArray]
    exact hu
  have hsmall : n + m ≤ 9223372036854775807 := by simp only [maxLen] at h63; omega
  by_cases hroom : n + m ≤ c
  · have hfit : n * i.size + news.length ≤ (xs ++ sp).length := by rw [hl, hc, ← Nat.add_mul]; exact Nat.mul_le_mul_right _ hroom
    have h2 := hsetN_at (t := e) (g := g) (n * i.size) news 0 (xs ++ sp).toArray h' h1 (by simpa using hfit)
    obtain ⟨w', hr, hs'⟩ := hsetN_run (P := P) _ 0 _ _ w hw h2
    have he : (List.take (n * i.size + 0) (xs ++ sp).toArray.toList ++ news ++ List.drop (n * i.size + 0 + news.length) (xs ++ sp).toArray.toList) = xs ++ news ++ sp.drop news.length := by
      rw [List.toList_toArray, Nat.add_zero, List.take_left' hn, ← List.drop_drop, List.drop_left' hn]
    rw [he] at hs'
    have hf := run_firstCells_some (P := P) w i.size m ⟨gn, 0, none⟩ m c2 news hl hnews
    refine ⟨.slice (some ⟨g, 0, none⟩) (n + m) c, w', _, ?_, hs', ?_⟩
    · simp [sAppend, Builtin.append_, run_underlying ht1, sizeOf, typeInfo, ht2, Builtin.lenOf, hroom, hf, hr, add_at]
    · refine hk g c (sp.drop news.length) (.inl rfl) ?_ hroom
      rw [List.length_append] at hc hfit
      simp only [List.length_append, List.length_drop]
      omega
  · have hr := run_append_grow (P := P) w t ty e i zv ht1 ht2 ht3 ⟨g, 0, none⟩ n c xs hn (loads_row (h := h') (cs := xs ++ sp) hw xs (n * i.size) (by rw [List.take_left' hn])) ⟨gn, 0, none⟩ m c2 news hl hnews (by omega) (by omega) (growslice_fits (by omega) hbytes)
    have hgc := grownCap_ge w (n + m) c e
    have hs' := (hw.ext (Ext.drew w)).2.2.2.alloc e (xs.toArray ++ news.toArray ++ Builtin.zeroCells zv.cells (grownCap w (n + m) c e - (n + m)))
    have hsp : xs.toArray ++ news.toArray ++ Builtin.zeroCells zv.cells (grownCap w (n + m) c e - (n + m)) = (xs ++ news ++ (Builtin.zeroCells zv.cells (grownCap w (n + m) c e - (n + m))).toList).toArray := by
      apply Array.ext'; simp
    rw [hsp] at hs' hr
    refine ⟨_, _, _, hr, hs', hk w.heap.size _ _ (.inr hw0.below) ?_ hgc⟩
    simp only [List.length_append, Array.length_toList, size_zeroCells, hzs, hn, hl]
    rw [← Nat.add_mul, ← Nat.add_mul]
    congr 1
    omega
end H
open H
theorem row_pts {w : World} {h : List Res} {g : Nat} {t : TypeId} {r : List Pt.P} {sp : List Value} (hs : Sat w h) (hm : Res.cells g t (r.flatMap Pt.ptC ++ sp).toArray ∈ h) : Rd w (some ⟨g, 0, none⟩) r.length 5 (ofL Pt.ptC Pt.p0 r) := by
  refine rd_cells (hs.mem _ hm) 0 r.length 5 _ (hs.lt _ hm g rfl) (fun i _ => rfl) fun i j hi hj => ?_
  rw [← flat_ofL Pt.ptC Pt.p0 r, Nat.zero_add, List.getElem?_toArray]
  have hl : (flat r.length (ofL Pt.ptC Pt.p0 r)).length = r.length * 5 := H.flat_len fun i _ => rfl
  rw [List.getElem?_append_left (by omega)]
  exact flat_get (z := 5) (fun i _ => rfl) i j hi hj
theorem ptC_len (r : List Pt.P) : (r.flatMap Pt.ptC).length = r.length * 5 := by
  induction r with
  | nil => rfl
  | cons p r ih => rw [List.flatMap_cons, List.length_append, ih, List.length_cons, show (Pt.ptC p).length = 5 from rfl]; omega
set_option maxRecDepth 20000 in
set_option maxHeartbeats 4000000 in
theorem rpts_pick (st : List Pt.St) (t : List UInt8) (l : List Tok.Tk) (sp : Int) (ast al : Option Addr) (cs cl : Nat) (hst : st.length ≤ 1000000) (ht : t.length ≤ 9223372036854775807) (hll : l.length ≤ 2147483648) (w : World)
    (hrs : Rd w ast st.length 2 (ofL Pt.stC Pt.st0 st)) (hr : Rd w al l.length 3 (ofL Tok.tkC Tok.tk0 l)) :
    Does Try.prog 19 #[.slice ast st.length cs, str t, .slice al l.length cl, .int .i64 sp] w fun v w' => ∃ a c, v = .tuple #[.slice a (Pt.pick st t l sp).1.length c, .int .i64 (Pt.pick st t l sp).2] ∧ Ext [] w w' ∧ Rd w' a (Pt.pick st t l sp).1.length 5 (ofL Pt.ptC Pt.p0 (Pt.pick st t l sp).1) := by
  refine does (args := [.slice ast st.length cs, str t, .slice al l.length cl, .int .i64 sp]) Try.func19 rfl (by kernel_rfl) (by kernel_rfl) rfl ent_19 (Sat.start w []) ?_; intro QV hQ
  by_cases h1 : sp < 1
  · have hp : Pt.pick st t l sp = ([], 1) := by unfold Pt.pick; rw [if_pos h1]
    rw [hp] at hQ
    simp -implicitDefEqProofs (disch := omega) only [go_sem, h1, decide_true]
    exact hQ _ _ fun w' hs => ⟨none, 0, rfl, hs.anchor (by simp), Rd.nil _ _ _ _⟩
  simp -implicitDefEqProofs (disch := omega) only [go_sem, h1, decide_false]
  refine RCall_eqS (fun w1 hs => rtok_check l al cl (t.length : Int) hll w1 (hr.keep (hs.anchor (by simp)))) ?_
  by_cases h2 : Tok.check l 0 (t.length : Int) = 0
  rotate_left
  · have hp : Pt.pick st t l sp = ([], 24) := by unfold Pt.pick; rw [if_neg h1, if_pos (.inl h2)]
    rw [hp] at hQ
    simp -implicitDefEqProofs (disch := omega) only [go_sem, h2, decide_false]
    exact hQ _ _ fun w' hs => ⟨none, 0, rfl, hs.anchor (by simp), Rd.nil _ _ _ _⟩
  have hch := Tok.chain_of_check l 0 _ h2
  have hsm : Small l := Tok.chain_small hch hll
  simp -implicitDefEqProofs (disch := omega) only [go_sem, h2, decide_true]
  refine RCall_eqS (fun w1 hs => rpts_orderly st ast cs (t.length : Int) (by omega) w1 (hrs.keep (hs.anchor (by simp)))) ?_
  by_cases h3 : Pt.Orderly st (t.length : Int)
  rotate_left
  · have hp : Pt.pick st t l sp = ([], 24) := by unfold Pt.pick; rw [if_neg h1, if_pos (.inr h3)]
    rw [hp] at hQ
    simp -implicitDefEqProofs (disch := omega) only [go_sem, h3, decide_false]
    exact hQ _ _ fun w' hs => ⟨none, 0, rfl, hs.anchor (by simp), Rd.nil _ _ _ _⟩
  have hp : Pt.pick st t l sp = ((Pt.picks sp st).map (Pt.point t l), 0) := by unfold Pt.pick; rw [if_neg h1, if_neg (by simp [h2, h3])]
  rw [hp] at hQ
  have h0 := h3.2.1
  have q1 : (0 : Int) < (st.length : Int) := by omega
  obtain ⟨b, o, rfl, hb, hc0, _⟩ := st_at hrs 0 h0
  rw [Nat.zero_mul, Nat.add_zero] at hc0
  have hom0 := ordered_mono h3 0 h0
  have htk0 := pickAt_take (sp := sp) (st := st) (done := []) (last := 0) (.inl ⟨rfl, rfl, rfl⟩) h0 (.inl rfl)
  generalize hx0 : st.getD 0 Pt.st0 = x0 at *
  obtain ⟨xb, xo⟩ := x0
  simp only [] at hc0 hom0 htk0
  simp -implicitDefEqProofs (disch := omega) only [go_sem, h3, q1, hc0, decide_true]
  refine RCall_eqS (fun w1 hs => rpts_point (xb, xo) t l al cl hom0 ht hll hsm w1 (hr.keep (hs.anchor (by simp)))) ?_
  obtain ⟨P0, hP0⟩ : ∃ P, P = Pt.point t l (xb, xo) := ⟨_, rfl⟩
  have hP0o : P0.out = xo := by rw [hP0]; rfl
  rw [← hP0]
  unfold ptV
  simp -implicitDefEqProofs (disch := omega) only [go_sem]
  refine RRun_build1z (cs := [.int .i64 P0.bit, .int .i64 P0.out, .int .i64 P0.tok, .int .i64 P0.frm, str P0.win]) pts_sl rfl (by omega) fun gn hgn => ?_
  simp -implicitDefEqProofs (disch := omega) only [go_sem]
  refine RLoop_from (fun f h => ∃ (i n c' g : Nat) (dn : List Pt.St) (last : Pt.St) (sps : List Value), 1 ≤ i ∧ i ≤ st.length ∧ n = dn.length + 1 ∧ n ≤ i ∧ n ≤ c' ∧ PickAt sp st (dn ++ [last]) i last.2 ∧ 0 ≤ last.2 ∧ last.2 ≤ t.length ∧ w.heap.size ≤ g ∧ (((dn ++ [last]).map (Pt.point t l)).flatMap Pt.ptC ++ sps).length = c' * 5 ∧
    f 0 = .slice (some ⟨b, o, none⟩) st.length cs ∧ f 1 = str t ∧ f 2 = .slice al l.length cl ∧ f 3 = .int .i64 sp ∧ f 10 = .slice (some ⟨g, 0, none⟩) n c' ∧ f 11 = .int .i64 (i : Int) ∧
    h = [.cells g 46 (((dn ++ [last]).map (Pt.point t l)).flatMap Pt.ptC ++ sps).toArray, .anchor w []]) (fun f _ => (st.length - ival (f 11)).toNat) ?_ ?_
  · refine fun w1 hs => ⟨_, hs, 1, 1, 1, gn, [], (xb, xo), [], by omega, by omega, rfl, by omega, by omega, htk0, hom0.1, hom0.2, hgn.1, rfl, by (first | (simp -implicitDefEqProofs (disch := omega) only [go_sem]; done) | (simp -implicitDefEqProofs (disch := omega) only [go_sem]; rfl)), by (first | (simp -implicitDefEqProofs (disch := omega) only [go_sem]; done) | (simp -implicitDefEqProofs (disch := omega) only [go_sem]; rfl)), by (first | (simp -implicitDefEqProofs (disch := omega) only [go_sem]; done) | (simp -implicitDefEqProofs (disch := omega) only [go_sem]; rfl)), by (first | (simp -implicitDefEqProofs (disch := omega) only [go_sem]; done) | (simp -implicitDefEqProofs (disch := omega) only [go_sem]; rfl)), by (first | (simp -implicitDefEqProofs (disch := omega) only [go_sem]; done) | (simp -implicitDefEqProofs (disch := omega) only [go_sem]; rfl)), by (first | (simp -implicitDefEqProofs (disch := omega) only [go_sem]; done) | (simp -implicitDefEqProofs (disch := omega) only [go_sem]; rfl)), ?_⟩
    rw [hP0]; rfl
  clear hgn
  rintro f h ⟨i, n, c', g, dn, last, sps, hi1, hi, hn, hni, hnc, hpa, hl0, hl1, hgw, hcap, e0, e1, e2, e3, e10, e11, rfl⟩ Q' hQ'
  have hmi : ival (f 11) = (i : Int) := by rw [e11]; rfl
  by_cases hil : i < st.length
  rotate_left
  · have g1 : ¬ (i : Int) < (st.length : Int) := by omega
    obtain rfl : i = st.length := by omega
    have hpe := pickAt_end hpa h3.2.1
    rw [hpe] at hQ
    have hln : n = ((dn ++ [last]).map (Pt.point t l)).length := by rw [List.length_map, List.length_append, List.length_singleton, hn]
    simp -implicitDefEqProofs (disch := omega) only [go_sem, e0, e1, e2, e3, e10, e11, g1, decide_false]
    rw [hln]
    exact hQ _ _ fun w' hs => ⟨_, c', rfl, hs.anchor (by simp), row_pts (t := 46) (sp := sps) hs (by simp)⟩
  have g1 : (i : Int) < (st.length : Int) := by omega
  have hbg : b ≠ g := by omega
  obtain ⟨b', o', hbo, _, hcN, _, hc1⟩ := st_at hrs i hil
  injection hbo with hbo
  injection hbo with hb1 hb2
  subst hb1 hb2
  have hom := ordered_mono h3 i hil
  have htk := pickAt_take hpa hil
  have hsk := pickAt_skip hpa hil
  generalize hx : st.getD i Pt.st0 = x at *
  obtain ⟨yb, yo⟩ := x
  simp only [] at hom htk hsk hcN hc1
  -- the last point's place
  have hlo : (((dn ++ [last]).map (Pt.point t l)).flatMap Pt.ptC ++ sps)[(n - 1) * 5 + 1]? = some (.int .i64 last.2) := by
    have hdn : n - 1 = (dn.map (Pt.point t l)).length := by rw [List.length_map]; omega
    rw [List.map_append, List.flatMap_append, List.append_assoc, hdn, ← ptC_len, List.getElem?_append_right (by omega), Nat.add_sub_cancel_left]
    rfl
  have hn1 : (n : Int) - 1 = ((n - 1 : Nat) : Int) := by omega
  have g2 : ((n - 1 : Nat) : Int) < (n : Int) := by omega
  generalize hRow : ((dn ++ [last]).map (Pt.point t l)).flatMap Pt.ptC ++ sps = row at *
  simp -implicitDefEqProofs (disch := omega) only [go_sem, e0, e1, e2, e3, e10, e11, g1, decide_true]
  refine RDraw_seg (by kernel_rfl) (by kernel_rfl) 15 rfl ?_
  refine RS_det (by kernel_rfl) ?_
  repeat (first | refine ToO_step (fun Q hq => by (simp -implicitDefEqProofs (disch := omega) only [go_sem, e0, e1, e2, e3, e10, e11, g1, hc1, hn1, g2, hbg, hlo]; exact hq)) ?_ | refine ToO_guard (by (simp -implicitDefEqProofs only [go_sem, e0, e1, e2, e3, e10, e11, g1, hc1, hn1, g2, hbg, hlo]; first | done | fail)) (fun Q hq => by (simp -implicitDefEqProofs (disch := omega) only [go_sem, e0, e1, e2, e3, e10, e11, g1, hc1, hn1, g2, hbg, hlo]; exact hq)) ?_ | refine ToO_skip (.inl (by (simp -implicitDefEqProofs only [go_sem, e0, e1, e2, e3, e10, e11, g1, hc1, hn1, g2, hbg, hlo]; first | done | fail))) ?_ | refine ToO_skip (.inr (by (simp -implicitDefEqProofs only [go_sem, e0, e1, e2, e3, e10, e11, g1, hc1, hn1, g2, hbg, hlo]; first | done | fail))) ?_)
  refine ToO_nil ?_
  by_cases htake : yo - last.2 ≥ sp
  rotate_left
  · have q4 : decide (sp ≤ yo - last.2) = false := decide_eq_false (by omega)
    have q5 := hsk (by omega) htake
    simp -implicitDefEqProofs (disch := omega) only [go_sem, e0, e1, e2, e3, e10, e11, q4]
    refine hQ' _ _ fun w1 hs => ⟨_, hs, ⟨i + 1, n, c', g, dn, last, sps, by omega, by omega, hn, by omega, hnc, q5, hl0, hl1, hgw, by rw [hRow]; exact hcap, ?_, ?_, ?_, ?_, ?_, ?_, by rw [hRow]⟩, ?_⟩
    · (first | (simp -implicitDefEqProofs (disch := omega) only [go_sem, e0, e1, e2, e3, e10, e11]; done) | (simp -implicitDefEqProofs (disch := omega) only [go_sem, e0, e1, e2, e3, e10, e11]; rfl))
    · (first | (simp -implicitDefEqProofs (disch := omega) only [go_sem, e0, e1, e2, e3, e10, e11]; done) | (simp -implicitDefEqProofs (disch := omega) only [go_sem, e0, e1, e2, e3, e10, e11]; rfl))
    · (first | (simp -implicitDefEqProofs (disch := omega) only [go_sem, e0, e1, e2, e3, e10, e11]; done) | (simp -implicitDefEqProofs (disch := omega) only [go_sem, e0, e1, e2, e3, e10, e11]; rfl))
    · (first | (simp -implicitDefEqProofs (disch := omega) only [go_sem, e0, e1, e2, e3, e10, e11]; done) | (simp -implicitDefEqProofs (disch := omega) only [go_sem, e0, e1, e2, e3, e10, e11]; rfl))
    · (first | (simp -implicitDefEqProofs (disch := omega) only [go_sem, e0, e1, e2, e3, e10, e11]; done) | (simp -implicitDefEqProofs (disch := omega) only [go_sem, e0, e1, e2, e3, e10, e11]; rfl))
    · (first | (simp -implicitDefEqProofs (disch := omega) only [go_sem, e0, e1, e2, e3, e10, e11]; done) | (simp -implicitDefEqProofs (disch := omega) only [go_sem, e0, e1, e2, e3, e10, e11]; rfl))
    · simp -implicitDefEqProofs (disch := omega) only [go_sem, e0, e1, e2, e3, e10, e11, hmi]; omega
  have q4 : decide (sp ≤ yo - last.2) = true := decide_eq_true (by omega)
  have q5 := htk (.inr htake)
  simp -implicitDefEqProofs (disch := omega) only [go_sem, e0, e1, e2, e3, e10, e11, q4, g1, hbg, hcN]
  refine RCall_eqS (fun w1 hs => rpts_point (yb, yo) t l al cl hom ht hll hsm w1 (hr.keep (hs.anchor (by simp)))) ?_
  obtain ⟨P, hP⟩ : ∃ P, P = Pt.point t l (yb, yo) := ⟨_, rfl⟩
  rw [← hP]
  unfold ptV
  simp -implicitDefEqProofs (disch := omega) only [go_sem]
  refine RRun_build1z (cs := [.int .i64 P.bit, .int .i64 P.out, .int .i64 P.tok, .int .i64 P.frm, str P.win]) pts_sl rfl (by omega) fun gn hgn => ?_
  simp -implicitDefEqProofs (disch := omega) only [go_sem, e0, e1, e2, e3, e10, e11]
  subst hRow
  have hxl : (((dn ++ [last]).map (Pt.point t l)).flatMap Pt.ptC).length = n * 5 := by rw [ptC_len, List.length_map, List.length_append, List.length_singleton, hn]
  refine RRun_append_rows (xs := ((dn ++ [last]).map (Pt.point t l)).flatMap Pt.ptC) (sp := sps) (news := [.int .i64 P.bit, .int .i64 P.out, .int .i64 P.tok, .int .i64 P.frm, str P.win]) pts_sl (fun _ hs => hs.2.2.2) List.mem_cons_self (ptC_one P) hxl hcap hnc rfl (by omega) (by simp only [maxLen]; omega) fun g' c'' sp' hg' hlen hc'' => ?_
  have hgw' : w.heap.size ≤ g' := by
    rcases hg' with rfl | h
    · exact hgw
    · obtain ⟨_, _, h, _⟩ := h; exact h
  have hrow : ((dn ++ [last] ++ [(yb, yo)]).map (Pt.point t l)).flatMap Pt.ptC = ((dn ++ [last]).map (Pt.point t l)).flatMap Pt.ptC ++ [.int .i64 P.bit, .int .i64 P.out, .int .i64 P.tok, .int .i64 P.frm, str P.win] := by
    rw [List.map_append, List.flatMap_append, hP]; rfl
  simp -implicitDefEqProofs (disch := omega) only [go_sem, e0, e1, e2, e3, e10, e11]
  refine hQ' _ _ fun w1 hs => ⟨_, hs, ⟨i + 1, n + 1, c'', g', dn ++ [last], (yb, yo), sp', by omega, by omega, by rw [List.length_append, List.length_singleton, hn], by omega, hc'', q5, hom.1, hom.2, hgw', by rw [hrow]; exact hlen, ?_, ?_, ?_, ?_, ?_, ?_, by rw [hrow]⟩, ?_⟩
  · (first | (simp -implicitDefEqProofs (disch := omega) only [go_sem, e0, e1, e2, e3, e10, e11]; done) | (simp -implicitDefEqProofs (disch := omega) only [go_sem, e0, e1, e2, e3, e10, e11]; rfl))
  · (first | (simp -implicitDefEqProofs (disch := omega) only [go_sem, e0, e1, e2, e3, e10, e11]; done) | (simp -implicitDefEqProofs (disch := omega) only [go_sem, e0, e1, e2, e3, e10, e11]; rfl))
  · (first | (simp -implicitDefEqProofs (disch := omega) only [go_sem, e0, e1, e2, e3, e10, e11]; done) | (simp -implicitDefEqProofs (disch := omega) only [go_sem, e0, e1, e2, e3, e10, e11]; rfl))
  · (first | (simp -implicitDefEqProofs (disch := omega) only [go_sem, e0, e1, e2, e3, e10, e11]; done) | (simp -implicitDefEqProofs (disch := omega) only [go_sem, e0, e1, e2, e3, e10, e11]; rfl))
  · (first | (simp -implicitDefEqProofs (disch := omega) only [go_sem, e0, e1, e2, e3, e10, e11]; done) | (simp -implicitDefEqProofs (disch := omega) only [go_sem, e0, e1, e2, e3, e10, e11]; rfl))
  · (first | (simp -implicitDefEqProofs (disch := omega) only [go_sem, e0, e1, e2, e3, e10, e11]; done) | (simp -implicitDefEqProofs (disch := omega) only [go_sem, e0, e1, e2, e3, e10, e11]; rfl))
  · simp -implicitDefEqProofs (disch := omega) only [go_sem, e0, e1, e2, e3, e10, e11, hmi]; omega
end Go.Proofs.Ytjcchmlideknpaa
