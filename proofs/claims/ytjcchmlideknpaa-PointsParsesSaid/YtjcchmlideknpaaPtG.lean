/- points: the walks: points picked. -/
import Derived.Test.YtjcchmlideknpaaPtF
namespace Go.Proofs.Ytjcchmlideknpaa
set_option linter.unusedSimpArgs false
set_option linter.unusedVariables false
open H
def NewPts (v : Value) (rs : List Res) (r : List Pt.P) : Prop := ∃ a c, v = .slice a r.length c ∧ r.length ≤ c ∧ rs = [Own 46 5 (.slice a r.length c) r.length (r.flatMap Pt.ptC)]
/-- A row of points of one's own reads so. -/
theorem pts_rd {w : World} {a : Option Addr} {c : Nat} {r : List Pt.P} (h : w.ownsRow 0 46 5 (.slice a r.length c) r.length (r.flatMap Pt.ptC)) : Rd w a r.length 5 (ofL Pt.ptC Pt.p0 r) := by
  rw [← flat_ofL Pt.ptC Pt.p0 r] at h
  exact rd_own h fun i hi => rfl
theorem own_pts {w : World} {h : List Res} {a : Option Addr} {c : Nat} {r : List Pt.P} (hs : Sat w h) (hm : Own 46 5 (.slice a r.length c) r.length (r.flatMap Pt.ptC) ∈ h) : Rd w a r.length 5 (ofL Pt.ptC Pt.p0 r) := pts_rd (hs.mem _ hm)
theorem ptC_one (p : Pt.P) : ∀ u ∈ Pt.ptC p, u.oneCell' = true := by
  intro u hu
  simp only [Pt.ptC, List.mem_cons, List.not_mem_nil, or_false] at hu
  rcases hu with rfl | rfl | rfl | rfl | rfl <;> rfl
theorem ptC_snoc (r : List Pt.P) (p : Pt.P) : (r ++ [p]).flatMap Pt.ptC = r.flatMap Pt.ptC ++ Pt.ptC p := by simp
theorem ordered_mono {l : List Pt.St} {size : Int} (h : Pt.Orderly l size) : ∀ i, i < l.length → 0 ≤ (l.getD i Pt.st0).2 ∧ (l.getD i Pt.st0).2 ≤ size := by
  intro i
  induction i with
  | zero => intro hi; have := h.1 0 hi; have h0 := h.2.2; exact ⟨by omega, this.2⟩
  | succ i ih =>
    intro hi
    have h1 := ih (by omega)
    have h2 := h.1 (i + 1) hi
    have h3 : (l.getD i Pt.st0).2 ≤ (l.getD (i + 1) Pt.st0).2 := by
      have := h2.1
      rw [if_neg (by omega)] at this
      exact this.2
    exact ⟨by omega, h2.2⟩
/-- How far the choice of points has come. -/
def PickAt (sp : Int) (st done : List Pt.St) (i : Nat) (last : Int) : Prop := (i = 0 ∧ done = [] ∧ last = 0) ∨ (0 < i ∧ Pt.picks sp st = done ++ Pt.pickS sp (st.drop i) last)
theorem st_drop {l : List Pt.St} {i : Nat} (h : i < l.length) : l.drop i = l.getD i Pt.st0 :: l.drop (i + 1) := by
  rw [List.drop_eq_getElem_cons h, List.getD_eq_getElem?_getD, List.getElem?_eq_getElem h]; rfl
theorem pickAt_take {sp : Int} {st done : List Pt.St} {i : Nat} {last : Int} (h : PickAt sp st done i last) (hi : i < st.length) (ht : i = 0 ∨ (st.getD i Pt.st0).2 - last ≥ sp) : PickAt sp st (done ++ [st.getD i Pt.st0]) (i + 1) (st.getD i Pt.st0).2 := by
  refine .inr ⟨by omega, ?_⟩
  rcases h with ⟨rfl, rfl, rfl⟩ | ⟨h1, h2⟩
  · conv => lhs; rw [show st = st.drop 0 from rfl, st_drop hi]
    rfl
  · rw [h2, st_drop hi, Pt.pickS, if_pos (ht.resolve_left (by omega)), List.append_assoc]; rfl
theorem pickAt_skip {sp : Int} {st done : List Pt.St} {i : Nat} {last : Int} (h : PickAt sp st done i last) (hi : i < st.length) (h0 : ¬ i = 0) (ht : ¬ (st.getD i Pt.st0).2 - last ≥ sp) : PickAt sp st done (i + 1) last := by
  refine .inr ⟨by omega, ?_⟩
  rcases h with ⟨rfl, rfl, rfl⟩ | ⟨h1, h2⟩
  · exact absurd rfl h0
  · rw [h2, st_drop hi, Pt.pickS, if_neg ht]
theorem pickAt_end {sp : Int} {st done : List Pt.St} {last : Int} (h : PickAt sp st done st.length last) (h0 : 0 < st.length) : Pt.picks sp st = done := by
  rcases h with ⟨h1, _⟩ | ⟨h1, h2⟩
  · omega
  · rw [h2, List.drop_length, Pt.pickS, List.append_nil]
set_option maxRecDepth 20000 in
set_option maxHeartbeats 2000000 in
theorem pts_pick (st : List Pt.St) (t : List UInt8) (l : List Tok.Tk) (sp : Int) (ast al : Option Addr) (cs cl : Nat) (hst : st.length ≤ 1000000) (ht : t.length ≤ 9223372036854775807) (hll : l.length ≤ 2147483648) (w : World)
    (hrs : Rd w ast st.length 2 (ofL Pt.stC Pt.st0 st)) (hr : Rd w al l.length 3 (ofL Tok.tkC Tok.tk0 l)) :
    Does Try.prog 17 #[.slice ast st.length cs, str t, .slice al l.length cl, .int .i64 sp] w fun v w' => ∃ rs, Sat w' (rs ++ [.anchor w []]) ∧ ∃ v0, v = .tuple #[v0, .int .i64 (Pt.pick st t l sp).2] ∧ NewPts v0 rs (Pt.pick st t l sp).1 := by
  refine does (args := [.slice ast st.length cs, str t, .slice al l.length cl, .int .i64 sp]) Try.func17 rfl (by kernel_rfl) (by kernel_rfl) rfl ent_17 (Sat.start w []) ?_; intro QV hQ
  have hfail : ∀ e : Int, ∀ w' h, Sat w' h → Res.anchor w [] ∈ h → ∃ rs, Sat w' (rs ++ [.anchor w []]) ∧ ∃ v0, Value.tuple #[.slice none 0 0, .int .i64 e] = .tuple #[v0, .int .i64 e] ∧ NewPts v0 rs [] := fun e w' h hs hm =>
    ⟨_, Sat.own_nil (w := w') (h := [.anchor w []]) 46 5 ⟨hs.mem _ hm, fun k hk => hs.lt _ hm k hk, fun _ hx => absurd hx (by simp), trivial⟩, _, rfl, none, 0, rfl, Nat.le_refl _, rfl⟩
  simp -implicitDefEqProofs (disch := omega) only [go_sem]
  refine RNew_intro fun g5 hg5 => ?_
  have hg5' : w.heap.size ≤ g5 := hg5.1
  simp -implicitDefEqProofs (disch := omega) only [go_sem]
  refine RNew_intro fun g6 hg6 => ?_
  have n56 : g5 ≠ g6 := Nat.ne_of_lt hg6.1
  have hg6' : w.heap.size ≤ g6 := hg6.2.1
  simp -implicitDefEqProofs (disch := omega) only [go_sem]
  by_cases h1 : sp < 1
  · have hp : Pt.pick st t l sp = ([], 1) := by unfold Pt.pick; rw [if_pos h1]
    rw [hp] at hQ
    simp -implicitDefEqProofs (disch := omega) only [go_sem, h1, decide_true]
    exact hQ _ _ fun w' hs => hfail 1 w' _ hs (by simp)
  simp -implicitDefEqProofs (disch := omega) only [go_sem, h1, decide_false]
  refine RCall_eqS (fun w1 hs => tok_check l al cl (t.length : Int) hll w1 (hr.keep (hs.anchor (by simp)))) ?_
  by_cases h2 : Tok.check l 0 (t.length : Int) = 0
  rotate_left
  · have hp : Pt.pick st t l sp = ([], 24) := by unfold Pt.pick; rw [if_neg h1, if_pos (.inl h2)]
    rw [hp] at hQ
    simp -implicitDefEqProofs (disch := omega) only [go_sem, h2, decide_false]
    exact hQ _ _ fun w' hs => hfail 24 w' _ hs (by simp)
  have hch := Tok.chain_of_check l 0 _ h2
  have hsm : Small l := Tok.chain_small hch hll
  simp -implicitDefEqProofs (disch := omega) only [go_sem, h2, decide_true]
  refine RCall_eqS (fun w1 hs => pts_orderly st ast cs (t.length : Int) (by omega) w1 (hrs.keep (hs.anchor (by simp)))) ?_
  by_cases h3 : Pt.Orderly st (t.length : Int)
  rotate_left
  · have hp : Pt.pick st t l sp = ([], 24) := by unfold Pt.pick; rw [if_neg h1, if_pos (.inr h3)]
    rw [hp] at hQ
    simp -implicitDefEqProofs (disch := omega) only [go_sem, h3, decide_false]
    exact hQ _ _ fun w' hs => hfail 24 w' _ hs (by simp)
  have hp : Pt.pick st t l sp = ((Pt.picks sp st).map (Pt.point t l), 0) := by unfold Pt.pick; rw [if_neg h1, if_neg (by simp [h2, h3])]
  rw [hp] at hQ
  simp -implicitDefEqProofs (disch := omega) only [go_sem, h3, decide_true]
  refine RLoop_from (fun f h => ∃ (i : Nat) (last : Int) (done : List Pt.St) (n : Nat) (a' : Option Addr) (c' : Nat), i ≤ st.length ∧ n ≤ c' ∧ n = done.length ∧ n ≤ i ∧ PickAt sp st done i last ∧ 0 ≤ last ∧ last ≤ t.length ∧ f 3 = .int .i64 sp ∧ f 10 = .func (.func 37) #[] #[.pointer (some ⟨g6, 0, none⟩), .pointer (some ⟨g5, 0, none⟩)] ∧
    f 11 = .slice a' n c' ∧ f 12 = .int .i64 last ∧ f 32 = .slice ast st.length cs ∧ f 33 = .int .i64 (st.length : Int) ∧ f 34 = .int .i64 (i : Int) ∧
    h = [Own 46 5 (.slice a' n c') n ((done.map (Pt.point t l)).flatMap Pt.ptC), .cells g6 35 #[.slice al l.length cl], .cells g5 9 #[str t], .anchor w []]) (fun f _ => (st.length - ival (f 34)).toNat) ?_ ?_
  · exact fun w1 hs => ⟨_, hs.own_nil 46 5, 0, 0, [], 0, none, 0, by omega, by omega, rfl, by omega, .inl ⟨rfl, rfl, rfl⟩, by omega, by omega, by (first | (simp -implicitDefEqProofs (disch := omega) only [go_sem]; done) | (simp -implicitDefEqProofs (disch := omega) only [go_sem]; rfl)), by (first | (simp -implicitDefEqProofs (disch := omega) only [go_sem]; done) | (simp -implicitDefEqProofs (disch := omega) only [go_sem]; rfl)), by (first | (simp -implicitDefEqProofs (disch := omega) only [go_sem]; done) | (simp -implicitDefEqProofs (disch := omega) only [go_sem]; rfl)), by (first | (simp -implicitDefEqProofs (disch := omega) only [go_sem]; done) | (simp -implicitDefEqProofs (disch := omega) only [go_sem]; rfl)), by (first | (simp -implicitDefEqProofs (disch := omega) only [go_sem]; done) | (simp -implicitDefEqProofs (disch := omega) only [go_sem]; rfl)), by (first | (simp -implicitDefEqProofs (disch := omega) only [go_sem]; done) | (simp -implicitDefEqProofs (disch := omega) only [go_sem]; rfl)), by (first | (simp -implicitDefEqProofs (disch := omega) only [go_sem]; done) | (simp -implicitDefEqProofs (disch := omega) only [go_sem]; rfl)), rfl⟩
  rintro f h ⟨i, last, done, n, a', c', hi, hnc, hn, hni, hpa, hl0, hl1, e3, e10, e11, e12, e32, e33, e34, rfl⟩ Q' hQ'
  have hmi : ival (f 34) = (i : Int) := by rw [e34]; rfl
  by_cases hil : i < st.length
  rotate_left
  · have g1 : ¬ (i : Int) < (st.length : Int) := by omega
    obtain rfl : i = st.length := by omega
    have hpe := pickAt_end hpa h3.2.1
    rw [hpe] at hQ
    simp -implicitDefEqProofs (disch := omega) only [go_sem, e3, e10, e11, e12, e32, e33, e34, g1, decide_false]
    subst hn
    refine hQ _ _ fun w' hs => ⟨_, Sat.sub (h' := [Own 46 5 (.slice a' done.length c') done.length ((done.map (Pt.point t l)).flatMap Pt.ptC)] ++ [.anchor w []]) (.cons_cons _ (.cons _ (.cons _ (List.Sublist.refl _)))) hs, _, rfl, a', c', ?_, ?_, ?_⟩
    · rw [List.length_map]
    · rw [List.length_map]; exact hnc
    · rw [List.length_map]
  have g1 : (i : Int) < (st.length : Int) := by omega
  obtain ⟨b, o, rfl, hb, hc, _⟩ := st_at hrs i hil
  have hbg5 : b ≠ g5 := by omega
  have hbg6 : b ≠ g6 := by omega
  have hom := ordered_mono h3 i hil
  have htk := pickAt_take hpa hil
  have hsk := pickAt_skip hpa hil
  generalize hp : st.getD i Pt.st0 = x at *
  obtain ⟨xb, xo⟩ := x
  simp only [] at hom htk hsk
  simp -implicitDefEqProofs (disch := omega) only [go_sem, e3, e10, e11, e12, e32, e33, e34, g1, hc, decide_true]
  refine RNew_intro fun gx hgx => ?_
  have m6 : g6 ≠ gx := Nat.ne_of_lt hgx.2.1
  have m5 : g5 ≠ gx := Nat.ne_of_lt hgx.2.2.1
  simp -implicitDefEqProofs (disch := omega) only [go_sem, e3, e10, e11, e12, e32, e33, e34]
  have hx63 : -9223372036854775808 ≤ xo - last ∧ xo - last ≤ 9223372036854775807 := by omega
  by_cases htake : i = 0 ∨ xo - last ≥ sp
  rotate_left
  · have q1 : ¬ i = 0 := fun h => htake (.inl h)
    have q2 : ¬ xo - last ≥ sp := fun h => htake (.inr h)
    have q3 : decide ((i : Int) = 0) = false := decide_eq_false (by omega)
    have q4 : decide (sp ≤ xo - last) = false := decide_eq_false (by omega)
    have q5 := hsk q1 q2
    simp -implicitDefEqProofs (disch := omega) only [go_sem, e3, e10, e11, e12, e32, e33, e34, q3, q4]
    refine hQ' _ _ fun w1 hs => ⟨_, Sat.drop2 hs.swap2, ⟨i + 1, last, done, n, a', c', by omega, hnc, hn, by omega, q5, hl0, hl1, ?_, ?_, ?_, ?_, ?_, ?_, ?_, rfl⟩, ?_⟩
    · (first | (simp -implicitDefEqProofs (disch := omega) only [go_sem, e3, e10, e11, e12, e32, e33, e34]; done) | (simp -implicitDefEqProofs (disch := omega) only [go_sem, e3, e10, e11, e12, e32, e33, e34]; rfl))
    · (first | (simp -implicitDefEqProofs (disch := omega) only [go_sem, e3, e10, e11, e12, e32, e33, e34]; done) | (simp -implicitDefEqProofs (disch := omega) only [go_sem, e3, e10, e11, e12, e32, e33, e34]; rfl))
    · (first | (simp -implicitDefEqProofs (disch := omega) only [go_sem, e3, e10, e11, e12, e32, e33, e34]; done) | (simp -implicitDefEqProofs (disch := omega) only [go_sem, e3, e10, e11, e12, e32, e33, e34]; rfl))
    · (first | (simp -implicitDefEqProofs (disch := omega) only [go_sem, e3, e10, e11, e12, e32, e33, e34]; done) | (simp -implicitDefEqProofs (disch := omega) only [go_sem, e3, e10, e11, e12, e32, e33, e34]; rfl))
    · (first | (simp -implicitDefEqProofs (disch := omega) only [go_sem, e3, e10, e11, e12, e32, e33, e34]; done) | (simp -implicitDefEqProofs (disch := omega) only [go_sem, e3, e10, e11, e12, e32, e33, e34]; rfl))
    · (first | (simp -implicitDefEqProofs (disch := omega) only [go_sem, e3, e10, e11, e12, e32, e33, e34]; done) | (simp -implicitDefEqProofs (disch := omega) only [go_sem, e3, e10, e11, e12, e32, e33, e34]; rfl))
    · (first | (simp -implicitDefEqProofs (disch := omega) only [go_sem, e3, e10, e11, e12, e32, e33, e34]; done) | (simp -implicitDefEqProofs (disch := omega) only [go_sem, e3, e10, e11, e12, e32, e33, e34]; rfl))
    · simp -implicitDefEqProofs (disch := omega) only [go_sem, e3, e10, e11, e12, e32, e33, e34, hmi]; omega
  have q5 := htk htake
  have hpz := ptC_snoc (done.map (Pt.point t l)) (Pt.point t l (xb, xo))
  have hdone : (done ++ [(xb, xo)]).map (Pt.point t l) = done.map (Pt.point t l) ++ [Pt.point t l (xb, xo)] := by simp
  have hpc := ptC_one (Pt.point t l (xb, xo))
  have hcase : decide ((i : Int) = 0) = true ∨ (decide ((i : Int) = 0) = false ∧ decide (sp ≤ xo - last) = true) := by
    by_cases h : i = 0
    · exact .inl (decide_eq_true (by omega))
    · exact .inr ⟨decide_eq_false (by omega), decide_eq_true (by have := htake.resolve_left h; omega)⟩
  have hpt : ∀ w1, ∀ h, Sat w1 h → .anchor w [] ∈ h → .cells g6 35 #[.slice al l.length cl] ∈ h → .cells g5 9 #[str t] ∈ h → Does Try.prog 37 #[.agg #[.int .i64 xb, .int .i64 xo], .pointer (some ⟨g6, 0, none⟩), .pointer (some ⟨g5, 0, none⟩)] w1 fun v w' => v = ptV (Pt.point t l (xb, xo)) ∧ Ext [] w1 w' := by
    intro w1 h hs m1 m2 m3
    refine pts_point (xb, xo) t l al cl g6 g5 hom ht hll hch hsm w1 (hr.keep (hs.anchor m1)) (hs.lt _ m2 g6 rfl) (hs.lt _ m3 g5 rfl) ?_ ?_
    · rw [cell_cells (hs.mem _ m2) rfl, if_pos rfl]; rfl
    · rw [cell_cells (hs.mem _ m3) rfl, if_pos rfl]; rfl
  rcases hcase with q3 | ⟨q3, q4⟩
  · simp -implicitDefEqProofs (disch := omega) only [go_sem, e3, e10, e11, e12, e32, e33, e34, q3]
    refine RCall_eqS (fun w1 hs => hpt w1 _ hs (by simp) (by simp) (by simp)) ?_
    generalize hP : Pt.point t l (xb, xo) = P at *
    unfold ptV
    simp -implicitDefEqProofs (disch := omega) only [go_sem]
    refine RRun_build1z (cs := [.int .i64 P.bit, .int .i64 P.out, .int .i64 P.tok, .int .i64 P.frm, str P.win]) pts_sl rfl (by omega) fun gn hgn => ?_
    simp -implicitDefEqProofs (disch := omega) only [go_sem, e3, e10, e11, e12, e32, e33, e34]
    refine RRun_append_cells pts_sl (fun _ hs => Sat.swap2 hs.2.2.2) rfl hpc (by omega) (by simp only [maxLen]; omega) fun a'' c'' hc'' => ?_
    simp -implicitDefEqProofs (disch := omega) only [go_sem, e3, e10, e11, e12, e32, e33, e34]
    refine hQ' _ _ fun w1 hs => ⟨_, Sat.drop2 hs, ⟨i + 1, xo, done ++ [(xb, xo)], n + 1, a'', c'', by omega, hc'', by simp [hn], by omega, q5, hom.1, hom.2, ?_, ?_, ?_, ?_, ?_, ?_, ?_, by rw [hdone, hpz]; rfl⟩, ?_⟩
    · (first | (simp -implicitDefEqProofs (disch := omega) only [go_sem, e3, e10, e11, e12, e32, e33, e34]; done) | (simp -implicitDefEqProofs (disch := omega) only [go_sem, e3, e10, e11, e12, e32, e33, e34]; rfl))
    · (first | (simp -implicitDefEqProofs (disch := omega) only [go_sem, e3, e10, e11, e12, e32, e33, e34]; done) | (simp -implicitDefEqProofs (disch := omega) only [go_sem, e3, e10, e11, e12, e32, e33, e34]; rfl))
    · (first | (simp -implicitDefEqProofs (disch := omega) only [go_sem, e3, e10, e11, e12, e32, e33, e34]; done) | (simp -implicitDefEqProofs (disch := omega) only [go_sem, e3, e10, e11, e12, e32, e33, e34]; rfl))
    · (first | (simp -implicitDefEqProofs (disch := omega) only [go_sem, e3, e10, e11, e12, e32, e33, e34]; done) | (simp -implicitDefEqProofs (disch := omega) only [go_sem, e3, e10, e11, e12, e32, e33, e34]; rfl))
    · (first | (simp -implicitDefEqProofs (disch := omega) only [go_sem, e3, e10, e11, e12, e32, e33, e34]; done) | (simp -implicitDefEqProofs (disch := omega) only [go_sem, e3, e10, e11, e12, e32, e33, e34]; rfl))
    · (first | (simp -implicitDefEqProofs (disch := omega) only [go_sem, e3, e10, e11, e12, e32, e33, e34]; done) | (simp -implicitDefEqProofs (disch := omega) only [go_sem, e3, e10, e11, e12, e32, e33, e34]; rfl))
    · (first | (simp -implicitDefEqProofs (disch := omega) only [go_sem, e3, e10, e11, e12, e32, e33, e34]; done) | (simp -implicitDefEqProofs (disch := omega) only [go_sem, e3, e10, e11, e12, e32, e33, e34]; rfl))
    · simp -implicitDefEqProofs (disch := omega) only [go_sem, e3, e10, e11, e12, e32, e33, e34, hmi]; omega
  · simp -implicitDefEqProofs (disch := omega) only [go_sem, e3, e10, e11, e12, e32, e33, e34, q3, q4]
    refine RCall_eqS (fun w1 hs => hpt w1 _ hs (by simp) (by simp) (by simp)) ?_
    generalize hP : Pt.point t l (xb, xo) = P at *
    unfold ptV
    simp -implicitDefEqProofs (disch := omega) only [go_sem]
    refine RRun_build1z (cs := [.int .i64 P.bit, .int .i64 P.out, .int .i64 P.tok, .int .i64 P.frm, str P.win]) pts_sl rfl (by omega) fun gn hgn => ?_
    simp -implicitDefEqProofs (disch := omega) only [go_sem, e3, e10, e11, e12, e32, e33, e34]
    refine RRun_append_cells pts_sl (fun _ hs => Sat.swap2 hs.2.2.2) rfl hpc (by omega) (by simp only [maxLen]; omega) fun a'' c'' hc'' => ?_
    simp -implicitDefEqProofs (disch := omega) only [go_sem, e3, e10, e11, e12, e32, e33, e34]
    refine hQ' _ _ fun w1 hs => ⟨_, Sat.drop2 hs, ⟨i + 1, xo, done ++ [(xb, xo)], n + 1, a'', c'', by omega, hc'', by simp [hn], by omega, q5, hom.1, hom.2, ?_, ?_, ?_, ?_, ?_, ?_, ?_, by rw [hdone, hpz]; rfl⟩, ?_⟩
    · (first | (simp -implicitDefEqProofs (disch := omega) only [go_sem, e3, e10, e11, e12, e32, e33, e34]; done) | (simp -implicitDefEqProofs (disch := omega) only [go_sem, e3, e10, e11, e12, e32, e33, e34]; rfl))
    · (first | (simp -implicitDefEqProofs (disch := omega) only [go_sem, e3, e10, e11, e12, e32, e33, e34]; done) | (simp -implicitDefEqProofs (disch := omega) only [go_sem, e3, e10, e11, e12, e32, e33, e34]; rfl))
    · (first | (simp -implicitDefEqProofs (disch := omega) only [go_sem, e3, e10, e11, e12, e32, e33, e34]; done) | (simp -implicitDefEqProofs (disch := omega) only [go_sem, e3, e10, e11, e12, e32, e33, e34]; rfl))
    · (first | (simp -implicitDefEqProofs (disch := omega) only [go_sem, e3, e10, e11, e12, e32, e33, e34]; done) | (simp -implicitDefEqProofs (disch := omega) only [go_sem, e3, e10, e11, e12, e32, e33, e34]; rfl))
    · (first | (simp -implicitDefEqProofs (disch := omega) only [go_sem, e3, e10, e11, e12, e32, e33, e34]; done) | (simp -implicitDefEqProofs (disch := omega) only [go_sem, e3, e10, e11, e12, e32, e33, e34]; rfl))
    · (first | (simp -implicitDefEqProofs (disch := omega) only [go_sem, e3, e10, e11, e12, e32, e33, e34]; done) | (simp -implicitDefEqProofs (disch := omega) only [go_sem, e3, e10, e11, e12, e32, e33, e34]; rfl))
    · (first | (simp -implicitDefEqProofs (disch := omega) only [go_sem, e3, e10, e11, e12, e32, e33, e34]; done) | (simp -implicitDefEqProofs (disch := omega) only [go_sem, e3, e10, e11, e12, e32, e33, e34]; rfl))
    · simp -implicitDefEqProofs (disch := omega) only [go_sem, e3, e10, e11, e12, e32, e33, e34, hmi]; omega
end Go.Proofs.Ytjcchmlideknpaa
