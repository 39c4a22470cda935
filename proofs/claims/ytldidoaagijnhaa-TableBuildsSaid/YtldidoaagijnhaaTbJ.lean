/- table: the walk: a table read. table: the walk: an automaton of bytes. -/
import Derived.Test.YtldidoaagijnhaaTbG
import Derived.Test.YtldidoaagijnhaaTbE
namespace Go.Proofs.Ytldidoaagijnhaa
set_option linter.unusedSimpArgs false
set_option linter.unusedVariables false
open H
/-- An automaton's blocks are new ones. -/
structure DNew (w : World) (d : Dfa.D) : Prop where
  a : ∀ k, d.a.map (·.block) = some k → w.heap.size ≤ k
  ra : ∀ i, i < d.next.length → ∀ k, (d.ra i).map (·.block) = some k → w.heap.size ≤ k
  ar : ∀ k, d.ar.map (·.block) = some k → w.heap.size ≤ k
/-- An automaton that a call hands back, standing still. -/
def StillD (w w' : World) (v : Value) (o : Option ((Nat → Int) × List (List Int) × List Int)) : Prop :=
  Ext [] w w' ∧ ∃ d : Dfa.D, v = .tuple #[d.val, .bool o.isSome] ∧ Dfa.Mem w' d ∧ DNew w d ∧ (∀ i, 0 ≤ d.cls i ∧ d.cls i ≤ 255) ∧ (∀ n ∈ d.rules, -1 ≤ n ∧ n ≤ 31) ∧ d.next.length ≤ 1000 ∧ (∀ r ∈ d.next, r.length ≤ 256) ∧ ∀ x, o = some x → d.cls = x.1 ∧ d.next = x.2.1 ∧ d.rules = x.2.2
def nilD : Dfa.D := ⟨fun _ => 0, [], [], none, 0, fun _ => none, fun _ => 0, none, 0⟩
theorem nilD_mem (w : World) : Dfa.Mem w nilD := by
  refine ⟨fun h => absurd h (by simp [nilD]), fun i hi => absurd hi (by simp [nilD]), fun h => absurd h (by simp [nilD]), by simp [nilD], fun i => by simp [nilD, Dfa.row], by simp [nilD]⟩
namespace H
theorem look_anchor3 (b o : Nat) (sp : Option Nat) (w0 : World) (g g2 g3 : Nat) (h : List Res) (hb : b < w0.heap.size) (hg : b ≠ g) (hg2 : b ≠ g2) (hg3 : b ≠ g3) : look ⟨b, o, sp⟩ (.anchor w0 [g, g2, g3] :: h) = w0.cell? ⟨b, o, sp⟩ := by simp [look, hb, hg, hg2, hg3]
theorem hsetN_sem (ad : Addr) (fp : Nat → Prop) (p : World → Prop) (st : Stable fp p) : ∀ (vs : List Value) (i : Nat) (h : List Res), hsetN ad vs i (.sem fp p st :: h) = (hsetN ad vs i h).map (.sem fp p st :: ·)
  | [], _, _ => rfl
  | v :: vs, i, h => by
    simp only [hsetN]
    split
    · rw [show hset (ad.add i) v (.sem fp p st :: h) = (hset (ad.add i) v h).map (.sem fp p st :: ·) from rfl]
      cases hset (ad.add i) v h with
      | none => rfl
      | some h' => exact hsetN_sem ad fp p st vs (i + 1) h'
    · rfl
theorem hsetN_own (ad : Addr) (e : TypeId) (z n : Nat) (v : Value) (xs : List Value) (vs : List Value) (i : Nat) (h : List Res) : hsetN ad vs i (Own e z v n xs :: h) = (hsetN ad vs i h).map (Own e z v n xs :: ·) := hsetN_sem ad _ _ _ vs i h
theorem hsetN_rows (ad : Addr) (e : TypeId) (S : Nat → Prop) (ws : Nat → Value) (xs : Nat → List Value) (vs : List Value) (i : Nat) (h : List Res) : hsetN ad vs i (RowsOwn e S ws xs :: h) = (hsetN ad vs i h).map (RowsOwn e S ws xs :: ·) := hsetN_sem ad _ _ _ vs i h
attribute [go_sem] look_anchor3 hsetN_own hsetN_rows
end H
theorem H.Ext.backS {w0 w1 w2 : World} {S : List Nat} (h : Ext [] w0 w1) (h' : Ext S w1 w2) (hg : ∀ k ∈ S, w0.heap.size ≤ k) : Ext [] w0 w2 :=
  ⟨h'.os.trans h.os, h'.tape.trans h.tape, h'.output.trans h.output, Nat.le_trans h.size h'.size, fun k hk _ => (h'.block k (Nat.lt_of_lt_of_le hk h.size) (fun hm => by have := hg k hm; omega)).trans (h.block k hk (by simp))⟩
theorem H.Rd.keepS {w w' : World} {a : Option Addr} {n z : Nat} {S : List Nat} {f : Nat → List Value} (h : Rd w a n z f) (hx : Ext S w w') (hg : ∀ k, a.map (·.block) = some k → k ∉ S) : Rd w' a n z f := by
  intro hn
  obtain ⟨b, o, e, hb, hc⟩ := h hn
  subst e
  have hbg := hg b rfl
  refine ⟨b, o, rfl, Nat.lt_of_lt_of_le hb hx.size, fun i hi => ⟨(hc i hi).1, fun j hj => ?_⟩⟩
  rw [← (hc i hi).2 j hj]
  exact cell_of_block (hx.block b hb hbg)
theorem blit_at : ∀ (vs pre old : List Value), vs.length ≤ old.length → blit (List.toArray (pre ++ old)) pre.length vs = List.toArray (pre ++ vs ++ old.drop vs.length)
  | [], pre, old, _ => by simp [blit_nil]
  | v :: vs, pre, [], h => by simp at h
  | v :: vs, pre, o :: old, h => by
    rw [blit_cons]
    have e : (List.toArray (pre ++ o :: old)).setIfInBounds pre.length v = List.toArray ((pre ++ [v]) ++ old) := by
      simp
    rw [e]
    have := blit_at vs (pre ++ [v]) old (by simpa using h)
    rw [List.length_append, List.length_singleton] at this
    rw [this]
    simp
theorem blit_dC (F G : Nat → Value) (x y : Value) : blit (List.toArray (Dfa.dC G x y)) 0 (vals 256 F) = List.toArray (Dfa.dC F x y) := by
  have := blit_at (vals 256 F) [] (Dfa.dC G x y) (by rw [vals_len, Dfa.dC_len]; omega)
  rw [List.length_nil, List.nil_append, List.nil_append] at this
  rw [this, vals_len]
  congr 2
  unfold Dfa.dC
  rw [List.drop_append_of_le_length (by rw [vals_len]; omega), List.drop_of_length_le (by rw [vals_len]; omega), List.nil_append]
theorem tset_dC (g : Nat) (t : TypeId) (F F' : Nat → Int) (a a' b b' : Option Addr) (n c n' c' m k m' k' : Nat) (h : List Res) : hsetN ⟨g, 0, none⟩ (Dfa.dC (intsV F .i64) (.slice a n c) (.slice b m k)) 0 (.cells g t (List.toArray (Dfa.dC (intsV F' .i64) (.slice a' n' c') (.slice b' m' k'))) :: h) = some (.cells g t (List.toArray (Dfa.dC (intsV F .i64) (.slice a n c) (.slice b m k))) :: h) :=
  Dfa.hsetN_dC g t F F' a a' b b' a a' b b' n c n' c' m k m' k' h
attribute [go_sem] blit_dC tset_dC
theorem nilD_new (w : World) : DNew w nilD := ⟨fun k h => by simp [nilD] at h, fun i hi => absurd hi (by simp [nilD]), fun k h => by simp [nilD] at h⟩
theorem new_block {w w1 : World} {S : List Nat} {k : Nat} (h : ¬ (k < w1.heap.size ∧ k ∉ S)) (hx : Ext [] w w1) (hS : ∀ k ∈ S, w.heap.size ≤ k) : w.heap.size ≤ k := by
  by_cases hm : k ∈ S
  · exact hS k hm
  · have := hx.size
    exact Decidable.byContradiction fun h2 => h ⟨by omega, hm⟩
set_option maxRecDepth 20000 in
set_option maxHeartbeats 4000000 in
theorem tb_read (s : List UInt8) (hsl : s.length ≤ 1000000) (h4 : 4 ≤ s.length) (w : World) : Does Try.prog 58 #[str s] w fun v w' => StillD w w' v (Tb.readD s) := by
  refine does (args := [str s]) Try.func58 rfl (by kernel_rfl) (by kernel_rfl) rfl ent_58 (Sat.start w []) ?_; intro QV hQ
  simp -implicitDefEqProofs (disch := omega) only [go_sem]
  refine RNew_intro fun g2 hg2 => ?_
  simp -implicitDefEqProofs (disch := omega) only [go_sem]
  refine RNew_intro fun g4 hg4 => ?_
  have n24 : g2 ≠ g4 := Nat.ne_of_lt hg4.1
  simp -implicitDefEqProofs (disch := omega) only [go_sem]
  obtain ⟨⟨z1, z2, z3, z4⟩, ⟨b1, b2, b3, b4⟩, ⟨x1, x2, x3⟩, d1, d2, d3, d4⟩ := Tb.hdr_in s h4
  refine RCall_frame [.cells g4 92 #[str s, .int .i64 4, .bool (!true)]] [.cells g2 48 (List.toArray (Dfa.dC (intsV (fun _ => 0) .i64) (.slice none 0 0) (.slice none 0 0))), .anchor w []] [g4] (fun _ hs => hs) (by simp [Res.fp]) (fun w1 hs => tb_num s (by omega) 1000 4 true (by omega) g4 w1 (hs.reanchors (by simp [Res.fp]))) ?_
  rintro _ _ ⟨rfl, rfl⟩
  rw [show Tb.num s 1000 4 true = Tb.st0 s from rfl]
  simp -implicitDefEqProofs (disch := omega) only [go_sem]
  refine RCall_frame [.cells g4 92 #[str s, .int .i64 (Tb.st0 s).2.1, .bool (!(Tb.st0 s).2.2)]] [.cells g2 48 (List.toArray (Dfa.dC (intsV (fun _ => 0) .i64) (.slice none 0 0) (.slice none 0 0))), .anchor w []] [g4] (fun _ hs => hs) (by simp [Res.fp]) (fun w1 hs => tb_num s (by omega) 256 (Tb.st0 s).2.1 (Tb.st0 s).2.2 (by omega) g4 w1 (hs.reanchors (by simp [Res.fp]))) ?_
  rintro _ _ ⟨rfl, rfl⟩
  rw [show Tb.num s 256 (Tb.st0 s).2.1 (Tb.st0 s).2.2 = Tb.cl0 s from rfl]
  simp -implicitDefEqProofs (disch := omega) only [go_sem]
  refine RCall_frame [.cells g4 92 #[str s, .int .i64 (Tb.cl0 s).2.1, .bool (!(Tb.cl0 s).2.2)]] [.cells g2 48 (List.toArray (Dfa.dC (intsV (fun _ => 0) .i64) (.slice none 0 0) (.slice none 0 0))), .anchor w []] [g4] (fun _ hs => hs) (by simp [Res.fp]) (fun w1 hs => tb_classes s hsl (Tb.cl0 s).2.1 (Tb.cl0 s).2.2 (by omega) g4 w1 (hs.reanchors (by simp [Res.fp]))) ?_
  rintro _ _ ⟨F, xa, wh, hcls, rfl, rfl⟩
  have hC0 : Tb.C0 s = (F, xa, wh) := hcls
  rw [hC0] at x1 x2 x3
  simp only [] at x1 x2 x3
  simp -implicitDefEqProofs (disch := omega) only [go_sem]
  refine RNew_intro fun gd hgd => ?_
  have n4d : g4 ≠ gd := Nat.ne_of_lt hgd.1
  have n2d : g2 ≠ gd := Nat.ne_of_lt hgd.2.1
  have hgw2 : w.heap.size ≤ g2 := hg2.1
  have hgw4 : w.heap.size ≤ g4 := hg4.2.1
  have hgwd : w.heap.size ≤ gd := hgd.2.2.1
  simp -implicitDefEqProofs (disch := omega) only [go_sem]
  refine RCall_frame [.cells g4 92 #[str s, .int .i64 xa, .bool (!wh)]] [.cells gd 48 (List.toArray (Dfa.dC (intsV F .i64) (.slice none 0 0) (.slice none 0 0))), .cells g2 48 (List.toArray (Dfa.dC (intsV (fun _ => 0) .i64) (.slice none 0 0) (.slice none 0 0))), .anchor w []] [g4] (fun _ hs => hs.swap2) (by simp [Res.fp]) (fun w1 hs => tb_num s (by omega) 1000 xa wh (by omega) g4 w1 (hs.reanchors (by simp [Res.fp]))) ?_
  rintro _ _ ⟨rfl, rfl⟩
  have hn0 : Tb.num s 1000 xa wh = Tb.n0 s := by unfold Tb.n0; rw [hC0]
  rw [hn0]
  obtain ⟨r1, r2, r3, r4, r5⟩ := Tb.R0_in s h4
  have hR0 : Tb.R0 s = Tb.rowsGo s (Tb.cl0 s).1.toNat (Tb.n0 s).1.toNat (Tb.n0 s).2.1 (Tb.n0 s).2.2 [] := rfl
  have hRD : Tb.readD s = if (Tb.R0 s).2.2 = true then (Tb.statesGo s (Tb.R0 s).1 (Tb.st0 s).1.toNat (Tb.R0 s).2.1 [] []).map fun x => ((Tb.C0 s).1, x.1, x.2) else none := rfl
  rw [hC0] at hRD
  generalize Tb.n0 s = nn at *
  obtain ⟨nn, xn, bn⟩ := nn
  generalize Tb.cl0 s = cc at *
  obtain ⟨cl, xc, bc⟩ := cc
  generalize Tb.st0 s = ss at *
  obtain ⟨st, xs, bs⟩ := ss
  generalize Tb.R0 s = RR at *
  obtain ⟨rows, xr, br⟩ := RR
  simp only [] at z1 z2 z3 z4 b1 b2 b3 b4 d1 d2 d3 d4 hR0 hRD r1 r2 r3 r4 r5
  obtain ⟨nn, rfl⟩ : ∃ m : Nat, nn = (m : Int) := ⟨nn.toNat, by omega⟩
  obtain ⟨cl, rfl⟩ : ∃ m : Nat, cl = (m : Int) := ⟨cl.toNat, by omega⟩
  obtain ⟨st, rfl⟩ : ∃ m : Nat, st = (m : Int) := ⟨st.toNat, by omega⟩
  simp only [Int.toNat_natCast] at hR0 hRD r5
  simp -implicitDefEqProofs (disch := omega) only [go_sem]
  refine RLoop_join (fun f h => ∃ (ao : Option Addr) (co n : Nat) (vs : Nat → Value), n = rows.length ∧ n ≤ co ∧ f 2 = .pointer (some ⟨g2, 0, none⟩) ∧ f 4 = .pointer (some ⟨g4, 0, none⟩) ∧ f 5 = .int .i64 (st : Int) ∧ f 7 = .pointer (some ⟨gd, 0, none⟩) ∧ f 8 = .slice ao n co ∧
    h = [.cells g4 92 #[str s, .int .i64 xr, .bool (!br)], RowsOwn 3 (fun k => k < n) vs (fun k => iv (rows.getD k [])), Own 46 1 (.slice ao n co) n ((List.range n).map vs), .cells gd 48 (List.toArray (Dfa.dC (intsV F .i64) (.slice none 0 0) (.slice none 0 0))), .cells g2 48 (List.toArray (Dfa.dC (intsV (fun _ => 0) .i64) (.slice none 0 0) (.slice none 0 0))), .anchor w []]) (fun J hJ => ?_) ?_
  · refine RLoop_from (fun f h => ∃ (m : Nat) (x : Int) (b : Bool) (acc : List (List Int)) (ao : Option Addr) (co n : Nat) (vs : Nat → Value), n = acc.length ∧ n ≤ co ∧ n + m ≤ 1000 ∧ 0 ≤ x ∧ x ≤ s.length ∧ Tb.rowsGo s cl m x b acc = (rows, xr, br) ∧ f 2 = .pointer (some ⟨g2, 0, none⟩) ∧ f 4 = .pointer (some ⟨g4, 0, none⟩) ∧ f 5 = .int .i64 (st : Int) ∧ f 6 = .int .i64 (cl : Int) ∧ f 7 = .pointer (some ⟨gd, 0, none⟩) ∧ f 8 = .slice ao n co ∧ f 9 = .int .i64 (m : Int) ∧
      h = [.cells g4 92 #[str s, .int .i64 x, .bool (!b)], RowsOwn 3 (fun k => k < n) vs (fun k => iv (acc.getD k [])), Own 46 1 (.slice ao n co) n ((List.range n).map vs), .cells gd 48 (List.toArray (Dfa.dC (intsV F .i64) (.slice none 0 0) (.slice none 0 0))), .cells g2 48 (List.toArray (Dfa.dC (intsV (fun _ => 0) .i64) (.slice none 0 0) (.slice none 0 0))), .anchor w []]) (fun f _ => (ival (f 9)).toNat) ?_ ?_
    · refine fun w1 hs => ⟨_, ?_, nn, xn, bn, [], none, 0, 0, fun _ => .slice none 0 0, rfl, by omega, by omega, d3, d4, hR0.symm, by (first | (simp -implicitDefEqProofs (disch := omega) only [go_sem]; done) | (simp -implicitDefEqProofs (disch := omega) only [go_sem]; rfl)), by (first | (simp -implicitDefEqProofs (disch := omega) only [go_sem]; done) | (simp -implicitDefEqProofs (disch := omega) only [go_sem]; rfl)), by (first | (simp -implicitDefEqProofs (disch := omega) only [go_sem]; done) | (simp -implicitDefEqProofs (disch := omega) only [go_sem]; rfl)), by (first | (simp -implicitDefEqProofs (disch := omega) only [go_sem]; done) | (simp -implicitDefEqProofs (disch := omega) only [go_sem]; rfl)), by (first | (simp -implicitDefEqProofs (disch := omega) only [go_sem]; done) | (simp -implicitDefEqProofs (disch := omega) only [go_sem]; rfl)), by (first | (simp -implicitDefEqProofs (disch := omega) only [go_sem]; done) | (simp -implicitDefEqProofs (disch := omega) only [go_sem]; rfl)), by (first | (simp -implicitDefEqProofs (disch := omega) only [go_sem]; done) | (simp -implicitDefEqProofs (disch := omega) only [go_sem]; rfl)), rfl⟩
      exact Sat.perm (List.perm_middle (l₁ := [_, _])) (Sat.rows_nil 3 _ (hs.own_nil 46 1))
    rintro f h ⟨m, x, b, acc, ao, co, n, vs, hn, hnc, hnm, hx0, hx1, hgo, e2, e4, e5, e6, e7, e8, e9, rfl⟩ Q' hQ'
    have hmi : ival (f 9) = (m : Int) := by rw [e9]; rfl
    cases m with
    | zero =>
      rw [Tb.rowsGo] at hgo
      injection hgo with h1 h2
      injection h2 with h2 h3
      subst h1 h2 h3
      have g0 : decide ((0 : Int) < ((0 : Nat) : Int)) = false := rfl
      simp -implicitDefEqProofs (disch := omega) only [go_sem, e2, e4, e5, e6, e7, e8, e9, g0]
      exact hJ _ _ ⟨ao, co, n, vs, hn, hnc, by (first | (simp -implicitDefEqProofs (disch := omega) only [go_sem, e2, e4, e5, e6, e7, e8, e9]; done) | (simp -implicitDefEqProofs (disch := omega) only [go_sem, e2, e4, e5, e6, e7, e8, e9]; rfl)), by (first | (simp -implicitDefEqProofs (disch := omega) only [go_sem, e2, e4, e5, e6, e7, e8, e9]; done) | (simp -implicitDefEqProofs (disch := omega) only [go_sem, e2, e4, e5, e6, e7, e8, e9]; rfl)), by (first | (simp -implicitDefEqProofs (disch := omega) only [go_sem, e2, e4, e5, e6, e7, e8, e9]; done) | (simp -implicitDefEqProofs (disch := omega) only [go_sem, e2, e4, e5, e6, e7, e8, e9]; rfl)), by (first | (simp -implicitDefEqProofs (disch := omega) only [go_sem, e2, e4, e5, e6, e7, e8, e9]; done) | (simp -implicitDefEqProofs (disch := omega) only [go_sem, e2, e4, e5, e6, e7, e8, e9]; rfl)), by (first | (simp -implicitDefEqProofs (disch := omega) only [go_sem, e2, e4, e5, e6, e7, e8, e9]; done) | (simp -implicitDefEqProofs (disch := omega) only [go_sem, e2, e4, e5, e6, e7, e8, e9]; rfl)), rfl⟩
    | succ m =>
      have g0 : decide ((0 : Int) < ((m + 1 : Nat) : Int)) = true := decide_eq_true (by omega)
      rw [Tb.rowsGo] at hgo
      cases b with
      | false =>
        rw [if_neg (by simp)] at hgo
        injection hgo with h1 h2
        injection h2 with h2 h3
        subst h1 h2 h3
        simp -implicitDefEqProofs (disch := omega) only [go_sem, e2, e4, e5, e6, e7, e8, e9, g0]
        exact hJ _ _ ⟨ao, co, n, vs, hn, hnc, by (first | (simp -implicitDefEqProofs (disch := omega) only [go_sem, e2, e4, e5, e6, e7, e8, e9]; done) | (simp -implicitDefEqProofs (disch := omega) only [go_sem, e2, e4, e5, e6, e7, e8, e9]; rfl)), by (first | (simp -implicitDefEqProofs (disch := omega) only [go_sem, e2, e4, e5, e6, e7, e8, e9]; done) | (simp -implicitDefEqProofs (disch := omega) only [go_sem, e2, e4, e5, e6, e7, e8, e9]; rfl)), by (first | (simp -implicitDefEqProofs (disch := omega) only [go_sem, e2, e4, e5, e6, e7, e8, e9]; done) | (simp -implicitDefEqProofs (disch := omega) only [go_sem, e2, e4, e5, e6, e7, e8, e9]; rfl)), by (first | (simp -implicitDefEqProofs (disch := omega) only [go_sem, e2, e4, e5, e6, e7, e8, e9]; done) | (simp -implicitDefEqProofs (disch := omega) only [go_sem, e2, e4, e5, e6, e7, e8, e9]; rfl)), by (first | (simp -implicitDefEqProofs (disch := omega) only [go_sem, e2, e4, e5, e6, e7, e8, e9]; done) | (simp -implicitDefEqProofs (disch := omega) only [go_sem, e2, e4, e5, e6, e7, e8, e9]; rfl)), rfl⟩
      | true =>
        rw [if_pos rfl] at hgo
        have hm1 : ((m + 1 : Nat) : Int) - 1 = (m : Int) := by omega
        obtain ⟨o1, o2, o3, o4⟩ := Tb.rowGo_in s cl x true [] hx0 hx1 (by simp)
        simp -implicitDefEqProofs (disch := omega) only [go_sem, e2, e4, e5, e6, e7, e8, e9, g0]
        refine RCall_frame [.cells g4 92 #[str s, .int .i64 x, .bool (!true)]] [RowsOwn 3 (fun k => k < n) vs (fun k => iv (acc.getD k [])), Own 46 1 (.slice ao n co) n ((List.range n).map vs), .cells gd 48 (List.toArray (Dfa.dC (intsV F .i64) (.slice none 0 0) (.slice none 0 0))), .cells g2 48 (List.toArray (Dfa.dC (intsV (fun _ => 0) .i64) (.slice none 0 0) (.slice none 0 0))), .anchor w []] [g4] (fun _ hs => hs) (by simp [Res.fp]) (fun w1 hs => tb_row s hsl cl (by omega) x true (by omega) g4 w1 (hs.reanchors (by simp [Res.fp]))) ?_
        rintro _ _ ⟨ai, ci, rfl, hci, hrl, rfl⟩
        generalize Tb.rowGo s cl x true [] = y at *
        obtain ⟨r, x2, b2⟩ := y
        simp only [] at o1 o2 o3 o4 hgo hrl ⊢
        simp -implicitDefEqProofs (disch := omega) only [go_sem, e2, e4, e5, e6, e7, e8, e9]
        refine RRun_build1 tintss_sl rfl fun gy hgy => ?_
        simp -implicitDefEqProofs (disch := omega) only [go_sem, e2, e4, e5, e6, e7, e8, e9]
        refine RRun_append_cells (n := n) (xs := (List.range n).map vs) (m := 1) (h' := [Own 3 1 (.slice ai cl ci) cl (iv r), .cells g4 92 #[str s, .int .i64 x2, .bool (!b2)], RowsOwn 3 (fun k => k < n) vs (fun k => iv (acc.getD k [])), .cells gd 48 (List.toArray (Dfa.dC (intsV F .i64) (.slice none 0 0) (.slice none 0 0))), .cells g2 48 (List.toArray (Dfa.dC (intsV (fun _ => 0) .i64) (.slice none 0 0) (.slice none 0 0))), .anchor w []]) tintss_sl (fun _ hs => Sat.perm (List.perm_middle (l₁ := [_, _, _])) hs.2.2.2) (by simp) (fun u hu => by simp at hu; subst hu; rfl) (by omega) (by simp only [maxLen]; omega) fun a'' c'' hc'' => ?_
        simp -implicitDefEqProofs (disch := omega) only [go_sem, e2, e4, e5, e6, e7, e8, e9]
        have hS : (fun k => k < n + 1 ∧ k ≠ n) = fun k => k < n := by funext k; exact propext (by omega)
        refine hQ' _ _ fun w1 hs => ⟨_, ?_, ⟨m, x2, b2, acc ++ [r], a'', c'', n + 1, fun k => if k = n then .slice ai cl ci else vs k, by rw [List.length_append, List.length_singleton, hn], hc'', by omega, o1, o2, hgo, ?_, ?_, ?_, ?_, ?_, ?_, ?_, rfl⟩, ?_⟩
        · have hs2 : Sat w1 (Own 3 1 (.slice ai cl ci) cl (iv r) :: RowsOwn 3 (fun k => k < n + 1 ∧ k ≠ n) vs (fun k => iv (acc.getD k [])) :: [.cells g4 92 #[str s, .int .i64 x2, .bool (!b2)], Own 46 1 (.slice a'' (n + 1) c'') (n + 1) ((List.range n).map vs ++ [.slice ai cl ci]), .cells gd 48 (List.toArray (Dfa.dC (intsV F .i64) (.slice none 0 0) (.slice none 0 0))), .cells g2 48 (List.toArray (Dfa.dC (intsV (fun _ => 0) .i64) (.slice none 0 0) (.slice none 0 0))), .anchor w []]) := by
            rw [hS]
            refine Sat.perm ?_ hs
            exact (List.Perm.swap _ _ _).trans ((List.Perm.cons _ (List.perm_middle (l₁ := [_, _]))).trans (by
              refine List.Perm.cons _ (List.Perm.cons _ ?_)
              exact List.Perm.swap _ _ _))
          have hj := Sat.rows_join (S := fun k => k < n + 1) (vs := vs) (xs := fun k => iv (acc.getD k [])) n (.slice ai cl ci) cl (iv r) hs2
          rw [rows_snoc hn r] at hj
          rw [range_snoc]
          exact Sat.swap2 hj
        · (first | (simp -implicitDefEqProofs (disch := omega) only [go_sem, e2, e4, e5, e6, e7, e8, e9]; done) | (simp -implicitDefEqProofs (disch := omega) only [go_sem, e2, e4, e5, e6, e7, e8, e9]; rfl))
        · (first | (simp -implicitDefEqProofs (disch := omega) only [go_sem, e2, e4, e5, e6, e7, e8, e9]; done) | (simp -implicitDefEqProofs (disch := omega) only [go_sem, e2, e4, e5, e6, e7, e8, e9]; rfl))
        · (first | (simp -implicitDefEqProofs (disch := omega) only [go_sem, e2, e4, e5, e6, e7, e8, e9]; done) | (simp -implicitDefEqProofs (disch := omega) only [go_sem, e2, e4, e5, e6, e7, e8, e9]; rfl))
        · (first | (simp -implicitDefEqProofs (disch := omega) only [go_sem, e2, e4, e5, e6, e7, e8, e9]; done) | (simp -implicitDefEqProofs (disch := omega) only [go_sem, e2, e4, e5, e6, e7, e8, e9]; rfl))
        · (first | (simp -implicitDefEqProofs (disch := omega) only [go_sem, e2, e4, e5, e6, e7, e8, e9]; done) | (simp -implicitDefEqProofs (disch := omega) only [go_sem, e2, e4, e5, e6, e7, e8, e9]; rfl))
        · (first | (simp -implicitDefEqProofs (disch := omega) only [go_sem, e2, e4, e5, e6, e7, e8, e9]; done) | (simp -implicitDefEqProofs (disch := omega) only [go_sem, e2, e4, e5, e6, e7, e8, e9]; rfl))
        · (first | (simp -implicitDefEqProofs (disch := omega) only [go_sem, e2, e4, e5, e6, e7, e8, e9, hm1]; done) | (simp -implicitDefEqProofs (disch := omega) only [go_sem, e2, e4, e5, e6, e7, e8, e9, hm1]; rfl))
        · simp -implicitDefEqProofs (disch := omega) only [go_sem, e2, e4, e5, e6, e7, e8, e9, hmi, hm1]; omega
  rintro f h ⟨ao, co, n, vs, hn, hnc, e2, e4, e5, e7, e8, rfl⟩
  subst hn
  simp -implicitDefEqProofs (disch := omega) only [go_sem, e2, e4, e5, e7, e8]
  refine RLoop_from (fun f h => ∃ (w1 : World) (ra : Nat → Option Addr) (rc : Nat → Nat) (i : Nat) (x : Int) (b : Bool) (nx : List (List Int)) (ru : List Int) (a1 : Option Addr) (c1 : Nat) (vn : Nat → Value) (a2 : Option Addr) (c2 : Nat), Ext [] w w1 ∧ RdRows w1 ao rows ra rc ∧ (∀ k, ao.map (·.block) = some k → k ≠ g4 ∧ k ≠ gd ∧ k ≠ g2) ∧ (∀ j, j < rows.length → ∀ k, (ra j).map (·.block) = some k → k ≠ g4 ∧ k ≠ gd ∧ k ≠ g2) ∧
    i ≤ st ∧ nx.length = i ∧ ru.length = i ∧ i ≤ c1 ∧ i ≤ c2 ∧ 0 ≤ x ∧ x ≤ s.length ∧ ((b = true ∧ br = true ∧ Tb.statesGo s rows (st - i) x nx ru = Tb.statesGo s rows st xr [] []) ∨ (b = false ∧ br = false ∧ i = 0)) ∧ (∀ r ∈ nx, r.length ≤ 256) ∧ (∀ n ∈ ru, -1 ≤ n ∧ n ≤ 31) ∧
    f 2 = .pointer (some ⟨g2, 0, none⟩) ∧ f 4 = .pointer (some ⟨g4, 0, none⟩) ∧ f 7 = .pointer (some ⟨gd, 0, none⟩) ∧ f 8 = .slice ao rows.length co ∧ f 41 = .int .i64 (st : Int) ∧ f 42 = .int .i64 (i : Int) ∧
    h = [.cells g4 92 #[str s, .int .i64 x, .bool (!b)], Own 46 1 (.slice a1 i c1) i ((List.range i).map vn), RowsOwn 3 (fun k => k < i) vn (fun k => iv (nx.getD k [])), Own 3 1 (.slice a2 i c2) i (iv ru), .cells gd 48 (List.toArray (Dfa.dC (intsV F .i64) (.slice a1 i c1) (.slice a2 i c2))), .cells g2 48 (List.toArray (Dfa.dC (intsV (fun _ => 0) .i64) (.slice none 0 0) (.slice none 0 0))), .anchor w1 [g4, gd, g2]]) (fun f _ => (st - ival (f 42)).toNat) ?_ ?_
  · intro w1 hs
    have ho : w1.ownsRow 0 46 1 (.slice ao rows.length co) rows.length ((List.range rows.length).map vs) := hs.mem (Own 46 1 (.slice ao rows.length co) rows.length ((List.range rows.length).map vs)) (by simp)
    have hr : RowsP 3 (fun k => k < rows.length) vs (fun k => iv (rows.getD k [])) w1 := hs.mem (RowsOwn 3 (fun k => k < rows.length) vs (fun k => iv (rows.getD k []))) (by simp)
    have hs0 := hs
    obtain ⟨_, _, q1, _, _, q2, _, _, q3, _⟩ := hs0
    have hs' : Sat w1 ([.cells g4 92 #[str s, .int .i64 xr, .bool (!br)], .cells gd 48 (List.toArray (Dfa.dC (intsV F .i64) (.slice none 0 0) (.slice none 0 0))), .cells g2 48 (List.toArray (Dfa.dC (intsV (fun _ => 0) .i64) (.slice none 0 0) (.slice none 0 0)))] ++ [.anchor w []]) := Sat.sub (.cons_cons _ (.cons _ (.cons _ (List.Sublist.refl _)))) hs
    have hs3 := hs'.reanchors (S := [g4, gd, g2]) (by simp [Res.fp])
    refine ⟨_, ?_, w1, raOf vs, rcOf vs, 0, xr, br, [], [], none, 0, fun _ => .slice none 0 0, none, 0, hs'.anchor (by simp), rdRows_of rfl ho hr, fun k hk => ?_, fun j hj k hk => ?_, by omega, rfl, rfl, by omega, by omega, r1, r2, ?_, by simp, by simp, by (first | (simp -implicitDefEqProofs (disch := omega) only [go_sem, e2, e4, e5, e7, e8]; done) | (simp -implicitDefEqProofs (disch := omega) only [go_sem, e2, e4, e5, e7, e8]; rfl)), by (first | (simp -implicitDefEqProofs (disch := omega) only [go_sem, e2, e4, e5, e7, e8]; done) | (simp -implicitDefEqProofs (disch := omega) only [go_sem, e2, e4, e5, e7, e8]; rfl)), by (first | (simp -implicitDefEqProofs (disch := omega) only [go_sem, e2, e4, e5, e7, e8]; done) | (simp -implicitDefEqProofs (disch := omega) only [go_sem, e2, e4, e5, e7, e8]; rfl)), by (first | (simp -implicitDefEqProofs (disch := omega) only [go_sem, e2, e4, e5, e7, e8]; done) | (simp -implicitDefEqProofs (disch := omega) only [go_sem, e2, e4, e5, e7, e8]; rfl)), by (first | (simp -implicitDefEqProofs (disch := omega) only [go_sem, e2, e4, e5, e7, e8]; done) | (simp -implicitDefEqProofs (disch := omega) only [go_sem, e2, e4, e5, e7, e8]; rfl)), by (first | (simp -implicitDefEqProofs (disch := omega) only [go_sem, e2, e4, e5, e7, e8]; done) | (simp -implicitDefEqProofs (disch := omega) only [go_sem, e2, e4, e5, e7, e8]; rfl)), rfl⟩
    · have h5 := ((Sat.rows_nil 3 (fun k => k < 0) (hs3.own_nil 3 1)).own_nil 46 1)
      exact Sat.perm (List.perm_middle (l₁ := [_, _, _])) h5
    · have h6 : (Value.slice ao rows.length co).ownBlock = some k := own_block hk
      refine ⟨fun e => q1 (Own 46 1 (.slice ao rows.length co) rows.length ((List.range rows.length).map vs)) (by simp) k e h6, fun e => q3 (.cells gd 48 (List.toArray (Dfa.dC (intsV F .i64) (.slice none 0 0) (.slice none 0 0)))) (by simp) k h6 e, fun e => q3 (.cells g2 48 (List.toArray (Dfa.dC (intsV (fun _ => 0) .i64) (.slice none 0 0) (.slice none 0 0)))) (by simp) k h6 e⟩
    · refine ⟨fun e => ?_, fun e => ?_, fun e => ?_⟩
      · exact rows_apart (r := .cells g4 92 #[str s, .int .i64 xr, .bool (!br)]) hr (fun k h1 h2 => q1 (RowsOwn 3 (fun k => k < rows.length) vs (fun k => iv (rows.getD k []))) (by simp) k h2 h1) j hj k hk e
      · exact rows_apart (r := .cells gd 48 (List.toArray (Dfa.dC (intsV F .i64) (.slice none 0 0) (.slice none 0 0)))) hr (fun k h1 h2 => q2 _ (by simp) k h1 h2) j hj k hk e
      · exact rows_apart (r := .cells g2 48 (List.toArray (Dfa.dC (intsV (fun _ => 0) .i64) (.slice none 0 0) (.slice none 0 0)))) hr (fun k h1 h2 => q2 _ (by simp) k h1 h2) j hj k hk e
    · cases br with
      | true => exact .inl ⟨rfl, rfl, rfl⟩
      | false => exact .inr ⟨rfl, rfl, rfl⟩
  clear e2 e4 e5 e7 e8
  rintro f h ⟨w1, ra, rc, i, x, b, nx, ru, a1, c1, vn, a2, c2, hxw, hrr, nao, nra, hi, hnl, hul, hc1, hc2, hx0, hx1, hat, hnx, hru, e2, e4, e7, e8, e41, e42, rfl⟩ Q' hQ'
  have hmi : ival (f 42) = (i : Int) := by rw [e42]; rfl
  have hfin : i = st → ∀ w', Sat w' [.cells g4 92 #[str s, .int .i64 x, .bool (!b)], Own 46 1 (.slice a1 i c1) i ((List.range i).map vn), RowsOwn 3 (fun k => k < i) vn (fun k => iv (nx.getD k [])), Own 3 1 (.slice a2 i c2) i (iv ru), .cells gd 48 (List.toArray (Dfa.dC (intsV F .i64) (.slice a1 i c1) (.slice a2 i c2))), .cells g2 48 (List.toArray (Dfa.dC (intsV F .i64) (.slice a1 i c1) (.slice a2 i c2))), .anchor w1 [g4, gd, g2]] → StillD w w' (.tuple #[.agg (List.toArray (Dfa.dC (intsV F .i64) (.slice a1 i c1) (.slice a2 i c2))), .bool b]) (Tb.readD s) := by
    rintro rfl w' hs
    have h1 : w'.ownsRow 0 46 1 (.slice a1 i c1) i ((List.range i).map vn) := hs.mem (Own 46 1 (.slice a1 i c1) i ((List.range i).map vn)) (by simp)
    have h2 : RowsP 3 (fun k => k < i) vn (fun k => iv (nx.getD k [])) w' := hs.mem (RowsOwn 3 (fun k => k < i) vn (fun k => iv (nx.getD k []))) (by simp)
    have h3 : w'.ownsRow 0 3 1 (.slice a2 i c2) i (iv ru) := hs.mem (Own 3 1 (.slice a2 i c2) i (iv ru)) (by simp)
    have h5 := rdRows_of hnl.symm h1 h2
    refine ⟨hxw.backS (S := [g4, gd, g2]) (hs.anchor (by simp)) (by simp; omega), ⟨F, nx, ru, a1, c1, raOf vn, rcOf vn, a2, c2⟩, ?_, ⟨h5.next, fun i hi => h5.rows i hi, ?_, ?_, ?_, ?_⟩, ⟨fun k hk => ?_, fun j hj k hk => ?_, fun k hk => ?_⟩, x3, hru, (by show nx.length ≤ 1000; omega), hnx, ?_⟩
    · unfold Dfa.D.val
      rw [hnl, hul]
      rw [hRD]
      rcases hat with ⟨rfl, rfl, hat⟩ | ⟨rfl, rfl, _⟩
      · rw [if_pos rfl, ← hat, Nat.sub_self, Tb.statesGo]; rfl
      · rw [if_neg (by simp)]; rfl
    · rw [← hul] at h3
      refine rd_own (e := 3) (c := c2) ?_ fun _ _ => rfl
      rw [flat_ints]
      exact h3
    · simp only [maxLen]; omega
    · intro j
      show (nx.getD j []).length ≤ maxLen
      simp only [maxLen]
      rcases Nat.lt_or_ge j nx.length with h | h
      · have := hnx (nx.getD j []) (by rw [List.getD_eq_getElem?_getD, List.getElem?_eq_getElem h]; exact List.getElem_mem _)
        omega
      · rw [List.getD_eq_getElem?_getD, List.getElem?_eq_none h]; simp
    · simp only [maxLen]; omega
    · exact new_block (S := [g4, gd, g2]) (hs.2.2.2.2.2.1 (.anchor w1 [g4, gd, g2]) (by simp) k (own_block hk)) hxw (by simp; omega)
    · rw [hnl] at hj
      exact new_block (S := [g4, gd, g2]) (rows_apart (r := .anchor w1 [g4, gd, g2]) h2 (fun k h1 => hs.2.2.2.2.2.2.2.2.1 (.anchor w1 [g4, gd, g2]) (by simp) k h1) j hj k hk) hxw (by simp; omega)
    · exact new_block (S := [g4, gd, g2]) (hs.2.2.2.2.2.2.2.2.2.2.2.1 (.anchor w1 [g4, gd, g2]) (by simp) k (own_block hk)) hxw (by simp; omega)
    · intro y hy
      rw [hRD] at hy
      rcases hat with ⟨rfl, rfl, hat⟩ | ⟨rfl, rfl, _⟩
      · rw [if_pos rfl, ← hat, Nat.sub_self, Tb.statesGo] at hy
        injection hy with hy
        subst hy
        exact ⟨rfl, rfl, rfl⟩
      · rw [if_neg (by simp)] at hy; cases hy
  by_cases hil : i < st
  rotate_left
  · have g0 : ¬ (i : Int) < (st : Int) := by omega
    have his : i = st := by omega
    simp -implicitDefEqProofs (disch := omega) only [go_sem, e2, e4, e7, e8, e41, e42, g0, decide_false]
    refine RDraw_seg (by kernel_rfl) (by kernel_rfl) 8 rfl ?_
    refine RS_cutR [0, 1, 2, 3] [4, 5, 6, 7] (by decide +kernel) ?_
    refine RS_det (by kernel_rfl) ?_
    repeat (first | refine ToO_step (fun Q hq => by (simp -implicitDefEqProofs (disch := omega) only [go_sem, e2, e4, e7, e8, e41, e42, hsetN_ne, n24, n4d, n2d, Ne.symm n24, Ne.symm n4d, Ne.symm n2d]; exact hq)) ?_ | refine ToO_guard (by (simp -implicitDefEqProofs only [go_sem, e2, e4, e7, e8, e41, e42, hsetN_ne, n24, n4d, n2d, Ne.symm n24, Ne.symm n4d, Ne.symm n2d]; first | done | fail)) (fun Q hq => by (simp -implicitDefEqProofs (disch := omega) only [go_sem, e2, e4, e7, e8, e41, e42, hsetN_ne, n24, n4d, n2d, Ne.symm n24, Ne.symm n4d, Ne.symm n2d]; exact hq)) ?_ | refine ToO_skip (.inl (by (simp -implicitDefEqProofs only [go_sem, e2, e4, e7, e8, e41, e42, hsetN_ne, n24, n4d, n2d, Ne.symm n24, Ne.symm n4d, Ne.symm n2d]; first | done | fail))) ?_ | refine ToO_skip (.inr (by (simp -implicitDefEqProofs only [go_sem, e2, e4, e7, e8, e41, e42, hsetN_ne, n24, n4d, n2d, Ne.symm n24, Ne.symm n4d, Ne.symm n2d]; first | done | fail))) ?_)
    refine ToO_nil ?_
    refine RS_first [4, 6] (by kernel_rfl) ⟨?_, ?_, trivial⟩
    · simp -implicitDefEqProofs (disch := omega) only [go_sem, e2, e4, e7, e8, e41, e42, hsetN_ne, n24, n4d, n2d, Ne.symm n24, Ne.symm n4d, Ne.symm n2d]
      refine RS_first (L := [5, 6, 7]) [5, 6] (by kernel_rfl) ⟨?_, ?_, trivial⟩
      · simp -implicitDefEqProofs (disch := omega) only [go_sem, e2, e4, e7, e8, e41, e42, hsetN_ne, n24, n4d, n2d, Ne.symm n24, Ne.symm n4d, Ne.symm n2d]
        refine RS_cut (L := [6, 7]) [6] [7] (by decide +kernel) ?_
        refine RS_text (by kernel_rfl) ?_
        simp -implicitDefEqProofs (disch := omega) only [go_sem, e2, e4, e7, e8, e41, e42, hsetN_ne, n24, n4d, n2d, Ne.symm n24, Ne.symm n4d, Ne.symm n2d]
        refine RS_text (by kernel_rfl) ?_
        simp -implicitDefEqProofs (disch := omega) only [go_sem, e2, e4, e7, e8, e41, e42, hsetN_ne, n24, n4d, n2d, Ne.symm n24, Ne.symm n4d, Ne.symm n2d]
        exact hQ _ _ fun w' hs => hfin his w' hs
      · simp -implicitDefEqProofs (disch := omega) only [go_sem, e2, e4, e7, e8, e41, e42, hsetN_ne, n24, n4d, n2d, Ne.symm n24, Ne.symm n4d, Ne.symm n2d]
        refine RS_text (L := [5, 7]) (by kernel_rfl) ?_
        simp -implicitDefEqProofs (disch := omega) only [go_sem, e2, e4, e7, e8, e41, e42, hsetN_ne, n24, n4d, n2d, Ne.symm n24, Ne.symm n4d, Ne.symm n2d]
        exact hQ _ _ fun w' hs => hfin his w' hs
    · simp -implicitDefEqProofs (disch := omega) only [go_sem, e2, e4, e7, e8, e41, e42, hsetN_ne, n24, n4d, n2d, Ne.symm n24, Ne.symm n4d, Ne.symm n2d]
      refine RS_text (L := [4, 5, 7]) (by kernel_rfl) ?_
      simp -implicitDefEqProofs (disch := omega) only [go_sem, e2, e4, e7, e8, e41, e42, hsetN_ne, n24, n4d, n2d, Ne.symm n24, Ne.symm n4d, Ne.symm n2d]
      exact hQ _ _ fun w' hs => hfin his w' hs
  have g0 : (i : Int) < (st : Int) := by omega
  simp -implicitDefEqProofs (disch := omega) only [go_sem, e2, e4, e7, e8, e41, e42, g0, decide_true]
  have hal := Tb.num_in s ((rows.length : Int) - 1) x b hx0 hx1
  refine RCall_frame [.cells g4 92 #[str s, .int .i64 x, .bool (!b)]] [Own 46 1 (.slice a1 i c1) i ((List.range i).map vn), RowsOwn 3 (fun k => k < i) vn (fun k => iv (nx.getD k [])), Own 3 1 (.slice a2 i c2) i (iv ru), .cells gd 48 (List.toArray (Dfa.dC (intsV F .i64) (.slice a1 i c1) (.slice a2 i c2))), .cells g2 48 (List.toArray (Dfa.dC (intsV (fun _ => 0) .i64) (.slice none 0 0) (.slice none 0 0))), .anchor w1 [g4, gd, g2]] [g4] (fun _ hs => hs) (by simp [Res.fp]) (fun w2 hs => tb_num s (by omega) ((rows.length : Int) - 1) x b (by omega) g4 w2 (hs.reanchors (by simp [Res.fp]))) ?_
  rintro _ _ ⟨rfl, rfl⟩
  obtain ⟨y1, hy1⟩ : ∃ y, y = Tb.num s ((rows.length : Int) - 1) x b := ⟨_, rfl⟩
  rw [← hy1] at hal ⊢
  have hal2 := Tb.num_in s 32 y1.2.1 y1.2.2 (by omega) hal.2.2.2.2
  simp -implicitDefEqProofs (disch := omega) only [go_sem, e2, e4, e7, e8, e41, e42]
  refine RCall_frame [.cells g4 92 #[str s, .int .i64 y1.2.1, .bool (!y1.2.2)]] [Own 46 1 (.slice a1 i c1) i ((List.range i).map vn), RowsOwn 3 (fun k => k < i) vn (fun k => iv (nx.getD k [])), Own 3 1 (.slice a2 i c2) i (iv ru), .cells gd 48 (List.toArray (Dfa.dC (intsV F .i64) (.slice a1 i c1) (.slice a2 i c2))), .cells g2 48 (List.toArray (Dfa.dC (intsV (fun _ => 0) .i64) (.slice none 0 0) (.slice none 0 0))), .anchor w1 [g4, gd, g2]] [g4] (fun _ hs => hs) (by simp [Res.fp]) (fun w2 hs => tb_num s (by omega) 32 y1.2.1 y1.2.2 (by omega) g4 w2 (hs.reanchors (by simp [Res.fp]))) ?_
  rintro _ _ ⟨rfl, rfl⟩
  obtain ⟨y2, hy2⟩ : ∃ y, y = Tb.num s 32 y1.2.1 y1.2.2 := ⟨_, rfl⟩
  rw [← hy2] at hal2 ⊢
  obtain ⟨m, hm⟩ : ∃ m, st - i = m + 1 := ⟨st - i - 1, by omega⟩
  cases hb2 : y2.2.2 with
  | false =>
    have hnone : Tb.readD s = none := by
      rw [hRD]
      rcases hat with ⟨rfl, rfl, hat⟩ | ⟨_, rfl, _⟩
      · rw [if_pos rfl, ← hat, hm, Tb.statesGo, if_neg (by unfold Tb.rNum Tb.kNum; rw [← hy1, ← hy2, hb2]; simp)]; rfl
      · rw [if_neg (by simp)]
    simp -implicitDefEqProofs (disch := omega) only [go_sem, e2, e4, e7, e8, e41, e42, hb2, Bool.not_false, hsetN_ne, n24, n4d, n2d, Ne.symm n24, Ne.symm n4d, Ne.symm n2d]
    rw [hnone] at hQ
    refine hQ _ _ fun w' hs => ⟨hxw.backS (S := [g4, gd, g2]) (hs.anchor (by simp)) (by simp; omega), nilD, rfl, nilD_mem w', nilD_new w, fun i => by simp [nilD], by simp [nilD], by simp [nilD], by simp [nilD], fun _ h => by cases h⟩
  | true =>
    have ht2 := Tb.num_true (s := s) (most := 32) (a := y1.2.1) (wh := y1.2.2) (by rw [← hy2]; exact hb2)
    rw [← hy2] at ht2
    have ht1 := Tb.num_true (s := s) (most := (rows.length : Int) - 1) (a := x) (wh := b) (by rw [← hy1]; exact ht2.1)
    rw [← hy1] at ht1
    obtain ⟨rfl, hk1⟩ := ht1
    obtain ⟨rfl, hat⟩ : br = true ∧ Tb.statesGo s rows (st - i) x nx ru = Tb.statesGo s rows st xr [] [] := by
      rcases hat with ⟨_, h1, h2⟩ | ⟨h, _⟩
      · exact ⟨h1, h2⟩
      · cases h
    rw [hm, Tb.statesGo] at hat
    have hkN : Tb.kNum s rows.length x = y1 := hy1.symm
    have hrN : Tb.rNum s rows.length x = y2 := by unfold Tb.rNum; rw [hkN]; exact hy2.symm
    rw [hrN, hkN, if_pos hb2, show m = st - (i + 1) by omega] at hat
    obtain ⟨k, hk⟩ : ∃ k : Nat, y1.1 = (k : Int) := ⟨y1.1.toNat, by omega⟩
    rw [hk] at hk1
    rw [hk, Int.toNat_natCast] at hat
    have hkl : k < rows.length := by omega
    have hkl' : (k : Int) < (rows.length : Int) := by omega
    obtain ⟨bo, oo, hao, hbo, hco⟩ := hrr.at_ k hkl
    obtain ⟨nb4, nbd, nb2⟩ := nao bo (by rw [hao]; rfl)
    have hrk := hrr.rows k hkl
    have hnk := nra k hkl
    have hrl : (rows.getD k []).length ≤ 256 := by
      have := (r5 (rows.getD k []) (by rw [List.getD_eq_getElem?_getD, List.getElem?_eq_getElem hkl]; exact List.getElem_mem _)).1
      omega
    generalize rows.getD k [] = r at *
    rw [hao] at e8
    simp -implicitDefEqProofs (disch := omega) only [go_sem, e2, e4, e7, e8, e41, e42, hb2, hk, Bool.not_true, hsetN_ne, n24, n4d, n2d, Ne.symm n24, Ne.symm n4d, Ne.symm n2d]
    refine RDraw_seg (by kernel_rfl) (by kernel_rfl) 11 rfl ?_
    refine RS_cutR [0, 2, 3, 4, 5, 9] [1, 6, 7, 8, 10] (by decide +kernel) ?_
    refine RS_det (by kernel_rfl) ?_
    repeat (first | refine ToO_step (fun Q hq => by (simp -implicitDefEqProofs (disch := omega) only [go_sem, e2, e4, e7, e8, e41, e42, hkl', hbo, hco, nb4, nbd, nb2, hsetN_ne, n24, n4d, n2d, Ne.symm n24, Ne.symm n4d, Ne.symm n2d]; exact hq)) ?_ | refine ToO_guard (by (simp -implicitDefEqProofs only [go_sem, e2, e4, e7, e8, e41, e42, hkl', hbo, hco, nb4, nbd, nb2, hsetN_ne, n24, n4d, n2d, Ne.symm n24, Ne.symm n4d, Ne.symm n2d]; first | done | fail)) (fun Q hq => by (simp -implicitDefEqProofs (disch := omega) only [go_sem, e2, e4, e7, e8, e41, e42, hkl', hbo, hco, nb4, nbd, nb2, hsetN_ne, n24, n4d, n2d, Ne.symm n24, Ne.symm n4d, Ne.symm n2d]; exact hq)) ?_ | refine ToO_skip (.inl (by (simp -implicitDefEqProofs only [go_sem, e2, e4, e7, e8, e41, e42, hkl', hbo, hco, nb4, nbd, nb2, hsetN_ne, n24, n4d, n2d, Ne.symm n24, Ne.symm n4d, Ne.symm n2d]; first | done | fail))) ?_ | refine ToO_skip (.inr (by (simp -implicitDefEqProofs only [go_sem, e2, e4, e7, e8, e41, e42, hkl', hbo, hco, nb4, nbd, nb2, hsetN_ne, n24, n4d, n2d, Ne.symm n24, Ne.symm n4d, Ne.symm n2d]; first | done | fail))) ?_)
    refine ToO_nil ?_
    obtain ⟨H, hH⟩ : ∃ H, H = [Res.cells g4 92 #[str s, .int .i64 y2.2.1, .bool false], Own 46 1 (.slice a1 i c1) i ((List.range i).map vn), RowsOwn 3 (fun k => k < i) vn (fun k => iv (nx.getD k [])), Own 3 1 (.slice a2 i c2) i (iv ru), .cells gd 48 (List.toArray (Dfa.dC (intsV F .i64) (.slice a1 i c1) (.slice a2 i c2))), .cells g2 48 (List.toArray (Dfa.dC (intsV (fun _ => 0) .i64) (.slice none 0 0) (.slice none 0 0))), .anchor w1 [g4, gd, g2]] := ⟨_, rfl⟩
    have hrd1 : ∀ w', Sat w' H → Rd w' (ra k) r.length 1 (Dfa.ints r) := fun w' hs => hrk.keepS (S := [g4, gd, g2]) (hs.anchor (by rw [hH]; simp)) (fun q hq hm => by
      have := hnk q hq
      simp only [List.mem_cons, List.not_mem_nil, or_false] at hm
      omega)
    have happ : ∀ (D : Option Nat) (ops rest : List Oper) (ty : TypeId) (fr : Fr) (h' : List Res) (Qx : Exit → Fr → List Res → Prop), (∀ w', Sat w' h' → Sat w' H) → (∀ ai ci, r.length ≤ ci → RL Try.prog ops rest [] (put fr D (.slice ai r.length ci)) (Own 3 1 (.slice ai r.length ci) r.length (iv r) :: h') Qx) →
        RRun Try.prog (sAppend #[46, 46] ty #[.slice none 0 0, .slice (ra k) r.length (rc k)]) ⟨D, ops, rest, []⟩ fr h' Qx := fun D ops rest ty fr h' Qx hh hk => by
      refine RRun_append_rd (e := 3) (n := 0) (xs := []) (Dfa.ints r) tints_sl (fun _ hs => hs.own_nil 3 1) (fun w1 hs => hrd1 w1 (hh w1 hs)) (fun _ _ => rfl) (fun u hu => by
        rw [flat_ints] at hu
        obtain ⟨x, _, rfl⟩ := List.mem_map.1 hu
        rfl) (by omega) (by omega) (by simp only [maxLen]; omega) fun ai ci hci => ?_
      rw [flat_ints, Nat.zero_add, List.nil_append]
      exact hk ai ci (by omega)
    rw [← hH]
    refine RS_via [8, 10] (fun f h => ∃ ai ci gy, r.length ≤ ci ∧ f 2 = .pointer (some ⟨g2, 0, none⟩) ∧ f 4 = .pointer (some ⟨g4, 0, none⟩) ∧ f 7 = .pointer (some ⟨gd, 0, none⟩) ∧ f 8 = .slice (some ⟨bo, oo, none⟩) rows.length co ∧ f 11 = .int .i64 (y2.1 - 1) ∧ f 41 = .int .i64 (st : Int) ∧ f 42 = .int .i64 (i : Int) ∧ f 58 = .slice a1 i c1 ∧ f 64 = .slice (some ⟨gy, 0, none⟩) 1 1 ∧ f 66 = .pointer (some ⟨gd, 256, none⟩) ∧
      h = .cells gy 46 #[.slice ai r.length ci] :: Own 3 1 (.slice ai r.length ci) r.length (iv r) :: H) (fun K' hI => ?_) ?_
    · refine RS_cut [1, 6, 7] [8, 10] (by decide +kernel) ?_
      refine RS_first [1, 6] (by kernel_rfl) ⟨?_, ?_, trivial⟩
      · rw [hH]
        simp -implicitDefEqProofs (disch := omega) only [go_sem, e2, e4, e7, e8, e41, e42, hsetN_ne, n24, n4d, n2d, Ne.symm n24, Ne.symm n4d, Ne.symm n2d]
        refine RS_text (L := [6, 7]) (by kernel_rfl) ?_
        rw [← hH]
        simp -implicitDefEqProofs (disch := omega) only [go_sem, e2, e4, e7, e8, e41, e42]
        refine happ _ _ _ _ _ _ _ (fun _ hs => hs) fun ai ci hci => ?_
        simp -implicitDefEqProofs (disch := omega) only [go_sem, e2, e4, e7, e8, e41, e42]
        refine RRun_build1 tintss_sl rfl fun gy hgy => ?_
        simp -implicitDefEqProofs (disch := omega) only [go_sem, e2, e4, e7, e8, e41, e42]
        exact hI _ _ ⟨ai, ci, gy, hci, by (first | (simp -implicitDefEqProofs (disch := omega) only [go_sem, e2, e4, e7, e8, e41, e42]; done) | (simp -implicitDefEqProofs (disch := omega) only [go_sem, e2, e4, e7, e8, e41, e42]; rfl)), by (first | (simp -implicitDefEqProofs (disch := omega) only [go_sem, e2, e4, e7, e8, e41, e42]; done) | (simp -implicitDefEqProofs (disch := omega) only [go_sem, e2, e4, e7, e8, e41, e42]; rfl)), by (first | (simp -implicitDefEqProofs (disch := omega) only [go_sem, e2, e4, e7, e8, e41, e42]; done) | (simp -implicitDefEqProofs (disch := omega) only [go_sem, e2, e4, e7, e8, e41, e42]; rfl)), by (first | (simp -implicitDefEqProofs (disch := omega) only [go_sem, e2, e4, e7, e8, e41, e42]; done) | (simp -implicitDefEqProofs (disch := omega) only [go_sem, e2, e4, e7, e8, e41, e42]; rfl)), by (first | (simp -implicitDefEqProofs (disch := omega) only [go_sem, e2, e4, e7, e8, e41, e42]; done) | (simp -implicitDefEqProofs (disch := omega) only [go_sem, e2, e4, e7, e8, e41, e42]; rfl)), by (first | (simp -implicitDefEqProofs (disch := omega) only [go_sem, e2, e4, e7, e8, e41, e42]; done) | (simp -implicitDefEqProofs (disch := omega) only [go_sem, e2, e4, e7, e8, e41, e42]; rfl)), by (first | (simp -implicitDefEqProofs (disch := omega) only [go_sem, e2, e4, e7, e8, e41, e42]; done) | (simp -implicitDefEqProofs (disch := omega) only [go_sem, e2, e4, e7, e8, e41, e42]; rfl)), by (first | (simp -implicitDefEqProofs (disch := omega) only [go_sem, e2, e4, e7, e8, e41, e42]; done) | (simp -implicitDefEqProofs (disch := omega) only [go_sem, e2, e4, e7, e8, e41, e42]; rfl)), by (first | (simp -implicitDefEqProofs (disch := omega) only [go_sem, e2, e4, e7, e8, e41, e42]; done) | (simp -implicitDefEqProofs (disch := omega) only [go_sem, e2, e4, e7, e8, e41, e42]; rfl)), by (first | (simp -implicitDefEqProofs (disch := omega) only [go_sem, e2, e4, e7, e8, e41, e42]; done) | (simp -implicitDefEqProofs (disch := omega) only [go_sem, e2, e4, e7, e8, e41, e42]; rfl)), rfl⟩
      · simp -implicitDefEqProofs (disch := omega) only [go_sem, e2, e4, e7, e8, e41, e42]
        refine happ _ _ _ _ _ _ _ (fun _ hs => hs) fun ai ci hci => ?_
        simp -implicitDefEqProofs (disch := omega) only [go_sem, e2, e4, e7, e8, e41, e42]
        refine RS_first (L := [1, 7]) [1, 7] (by kernel_rfl) ⟨?_, ?_, trivial⟩
        · rw [hH]
          simp -implicitDefEqProofs (disch := omega) only [go_sem, e2, e4, e7, e8, e41, e42, hsetN_ne, n24, n4d, n2d, Ne.symm n24, Ne.symm n4d, Ne.symm n2d]
          refine RS_text (L := [7]) (by kernel_rfl) ?_
          rw [← hH]
          simp -implicitDefEqProofs (disch := omega) only [go_sem, e2, e4, e7, e8, e41, e42]
          refine RRun_build1 tintss_sl rfl fun gy hgy => ?_
          simp -implicitDefEqProofs (disch := omega) only [go_sem, e2, e4, e7, e8, e41, e42]
          exact hI _ _ ⟨ai, ci, gy, hci, by (first | (simp -implicitDefEqProofs (disch := omega) only [go_sem, e2, e4, e7, e8, e41, e42]; done) | (simp -implicitDefEqProofs (disch := omega) only [go_sem, e2, e4, e7, e8, e41, e42]; rfl)), by (first | (simp -implicitDefEqProofs (disch := omega) only [go_sem, e2, e4, e7, e8, e41, e42]; done) | (simp -implicitDefEqProofs (disch := omega) only [go_sem, e2, e4, e7, e8, e41, e42]; rfl)), by (first | (simp -implicitDefEqProofs (disch := omega) only [go_sem, e2, e4, e7, e8, e41, e42]; done) | (simp -implicitDefEqProofs (disch := omega) only [go_sem, e2, e4, e7, e8, e41, e42]; rfl)), by (first | (simp -implicitDefEqProofs (disch := omega) only [go_sem, e2, e4, e7, e8, e41, e42]; done) | (simp -implicitDefEqProofs (disch := omega) only [go_sem, e2, e4, e7, e8, e41, e42]; rfl)), by (first | (simp -implicitDefEqProofs (disch := omega) only [go_sem, e2, e4, e7, e8, e41, e42]; done) | (simp -implicitDefEqProofs (disch := omega) only [go_sem, e2, e4, e7, e8, e41, e42]; rfl)), by (first | (simp -implicitDefEqProofs (disch := omega) only [go_sem, e2, e4, e7, e8, e41, e42]; done) | (simp -implicitDefEqProofs (disch := omega) only [go_sem, e2, e4, e7, e8, e41, e42]; rfl)), by (first | (simp -implicitDefEqProofs (disch := omega) only [go_sem, e2, e4, e7, e8, e41, e42]; done) | (simp -implicitDefEqProofs (disch := omega) only [go_sem, e2, e4, e7, e8, e41, e42]; rfl)), by (first | (simp -implicitDefEqProofs (disch := omega) only [go_sem, e2, e4, e7, e8, e41, e42]; done) | (simp -implicitDefEqProofs (disch := omega) only [go_sem, e2, e4, e7, e8, e41, e42]; rfl)), by (first | (simp -implicitDefEqProofs (disch := omega) only [go_sem, e2, e4, e7, e8, e41, e42]; done) | (simp -implicitDefEqProofs (disch := omega) only [go_sem, e2, e4, e7, e8, e41, e42]; rfl)), by (first | (simp -implicitDefEqProofs (disch := omega) only [go_sem, e2, e4, e7, e8, e41, e42]; done) | (simp -implicitDefEqProofs (disch := omega) only [go_sem, e2, e4, e7, e8, e41, e42]; rfl)), rfl⟩
        · simp -implicitDefEqProofs (disch := omega) only [go_sem, e2, e4, e7, e8, e41, e42]
          refine RRun_build1 tintss_sl rfl fun gy hgy => ?_
          have ngy : gd ≠ gy := by
            rw [hH] at hgy
            exact Nat.ne_of_lt hgy.2.2.2.2.2.1
          simp -implicitDefEqProofs (disch := omega) only [go_sem, e2, e4, e7, e8, e41, e42]
          refine RS_text (L := [1]) (by kernel_rfl) ?_
          rw [hH]
          simp -implicitDefEqProofs (disch := omega) only [go_sem, e2, e4, e7, e8, e41, e42, hsetN_ne, n24, n4d, n2d, Ne.symm n24, Ne.symm n4d, Ne.symm n2d, ngy]
          rw [← hH]
          exact hI _ _ ⟨ai, ci, gy, hci, by (first | (simp -implicitDefEqProofs (disch := omega) only [go_sem, e2, e4, e7, e8, e41, e42]; done) | (simp -implicitDefEqProofs (disch := omega) only [go_sem, e2, e4, e7, e8, e41, e42]; rfl)), by (first | (simp -implicitDefEqProofs (disch := omega) only [go_sem, e2, e4, e7, e8, e41, e42]; done) | (simp -implicitDefEqProofs (disch := omega) only [go_sem, e2, e4, e7, e8, e41, e42]; rfl)), by (first | (simp -implicitDefEqProofs (disch := omega) only [go_sem, e2, e4, e7, e8, e41, e42]; done) | (simp -implicitDefEqProofs (disch := omega) only [go_sem, e2, e4, e7, e8, e41, e42]; rfl)), by (first | (simp -implicitDefEqProofs (disch := omega) only [go_sem, e2, e4, e7, e8, e41, e42]; done) | (simp -implicitDefEqProofs (disch := omega) only [go_sem, e2, e4, e7, e8, e41, e42]; rfl)), by (first | (simp -implicitDefEqProofs (disch := omega) only [go_sem, e2, e4, e7, e8, e41, e42]; done) | (simp -implicitDefEqProofs (disch := omega) only [go_sem, e2, e4, e7, e8, e41, e42]; rfl)), by (first | (simp -implicitDefEqProofs (disch := omega) only [go_sem, e2, e4, e7, e8, e41, e42]; done) | (simp -implicitDefEqProofs (disch := omega) only [go_sem, e2, e4, e7, e8, e41, e42]; rfl)), by (first | (simp -implicitDefEqProofs (disch := omega) only [go_sem, e2, e4, e7, e8, e41, e42]; done) | (simp -implicitDefEqProofs (disch := omega) only [go_sem, e2, e4, e7, e8, e41, e42]; rfl)), by (first | (simp -implicitDefEqProofs (disch := omega) only [go_sem, e2, e4, e7, e8, e41, e42]; done) | (simp -implicitDefEqProofs (disch := omega) only [go_sem, e2, e4, e7, e8, e41, e42]; rfl)), by (first | (simp -implicitDefEqProofs (disch := omega) only [go_sem, e2, e4, e7, e8, e41, e42]; done) | (simp -implicitDefEqProofs (disch := omega) only [go_sem, e2, e4, e7, e8, e41, e42]; rfl)), by (first | (simp -implicitDefEqProofs (disch := omega) only [go_sem, e2, e4, e7, e8, e41, e42]; done) | (simp -implicitDefEqProofs (disch := omega) only [go_sem, e2, e4, e7, e8, e41, e42]; rfl)), rfl⟩
    clear e2 e4 e7 e8 e41 e42
    rintro f h ⟨ai, ci, gy, hci, e2, e4, e7, e8, e11, e41, e42, e58, e64, e66, rfl⟩
    refine RS_text (by kernel_rfl) ?_
    subst hH
    simp -implicitDefEqProofs (disch := omega) only [go_sem, e2, e4, e7, e8, e11, e41, e42, e58, e64, e66]
    refine RRun_append_cells (n := i) (xs := (List.range i).map vn) (m := 1) (h' := [Own 3 1 (.slice ai r.length ci) r.length (iv r), .cells g4 92 #[str s, .int .i64 y2.2.1, .bool false], RowsOwn 3 (fun k => k < i) vn (fun k => iv (nx.getD k [])), Own 3 1 (.slice a2 i c2) i (iv ru), .cells gd 48 (List.toArray (Dfa.dC (intsV F .i64) (.slice a1 i c1) (.slice a2 i c2))), .cells g2 48 (List.toArray (Dfa.dC (intsV (fun _ => 0) .i64) (.slice none 0 0) (.slice none 0 0))), .anchor w1 [g4, gd, g2]]) tintss_sl (fun _ hs => Sat.perm (List.perm_middle (l₁ := [_, _])) hs.2.2.2) (by simp) (fun u hu => by simp at hu; subst hu; rfl) (by omega) (by simp only [maxLen]; omega) fun a1' c1' hc1' => ?_
    simp -implicitDefEqProofs (disch := omega) only [go_sem, e2, e4, e7, e8, e11, e41, e42, e58, e64, e66, hsetN_ne, n24, n4d, n2d, Ne.symm n24, Ne.symm n4d, Ne.symm n2d]
    refine RRun_buildz [.int .i64 (y2.1 - 1)] (iv [y2.1 - 1]) tints_sl rfl rfl (by simp) (fun v hv => by
      simp only [List.mem_cons, List.not_mem_nil, or_false] at hv
      subst hv; rfl) rfl (by simp) fun gz hgz => ?_
    simp -implicitDefEqProofs (disch := omega) only [go_sem, e2, e4, e7, e8, e11, e41, e42, e58, e64, e66, hsetN_ne, n24, n4d, n2d, Ne.symm n24, Ne.symm n4d, Ne.symm n2d]
    refine RRun_append_cells (n := i) (xs := iv ru) (m := 1) (h' := [Own 46 1 (.slice a1' (i + 1) c1') (i + 1) ((List.range i).map vn ++ [Value.slice ai r.length ci]), Own 3 1 (.slice ai r.length ci) r.length (iv r), .cells g4 92 #[str s, .int .i64 y2.2.1, .bool false], RowsOwn 3 (fun k => k < i) vn (fun k => iv (nx.getD k [])), .cells gd 48 (List.toArray (Dfa.dC (intsV F .i64) (.slice a1' (i + 1) c1') (.slice a2 i c2))), .cells g2 48 (List.toArray (Dfa.dC (intsV (fun _ => 0) .i64) (.slice none 0 0) (.slice none 0 0))), .anchor w1 [g4, gd, g2]]) tints_sl (fun _ hs => Sat.perm (List.perm_middle (l₁ := [_, _, _, _])) hs.2.2.2) rfl (fun u hu => by
      simp only [iv, List.map_cons, List.map_nil, List.mem_singleton] at hu
      subst hu; rfl) (by omega) (by simp only [maxLen]; omega) fun a2' c2' hc2' => ?_
    simp -implicitDefEqProofs (disch := omega) only [go_sem, e2, e4, e7, e8, e11, e41, e42, e58, e64, e66, hsetN_ne, n24, n4d, n2d, Ne.symm n24, Ne.symm n4d, Ne.symm n2d]
    have hS : (fun k => k < i + 1 ∧ k ≠ i) = fun k => k < i := by funext k; exact propext (by omega)
    refine hQ' _ _ fun w2 hs => ⟨_, ?_, ⟨w1, ra, rc, i + 1, y2.2.1, true, nx ++ [r], ru ++ [y2.1 - 1], a1', c1', fun k => if k = i then .slice ai r.length ci else vn k, a2', c2', hxw, hrr, nao, nra, by omega, by rw [List.length_append, List.length_singleton, hnl], by rw [List.length_append, List.length_singleton, hul], hc1', hc2', by omega, by omega, .inl (hat.resolve_right (by simp)), ?_, ?_, ?_, ?_, ?_, ?_, ?_, ?_, rfl⟩, ?_⟩
    · have h1 := Sat.perm (List.perm_middle (l₁ := [_, _, _])) (Sat.perm (List.perm_middle (l₁ := [_, _, _, _])) hs)
      have hj := Sat.rows_join (S := fun k => k < i + 1) (vs := vn) (xs := fun k => iv (nx.getD k [])) i (.slice ai r.length ci) r.length (iv r) (by rw [hS]; exact h1)
      rw [rows_snoc hnl.symm r] at hj
      rw [range_snoc, ← iv_snoc]
      exact Sat.perm (List.perm_middle (l₁ := [_, _, _])) (Sat.perm (List.perm_middle (l₁ := [_, _])) hj)
    · intro q hq
      rcases List.mem_append.1 hq with hq | hq
      · exact hnx q hq
      · obtain rfl := List.mem_singleton.1 hq
        exact hrl
    · intro q hq
      rcases List.mem_append.1 hq with hq | hq
      · exact hru q hq
      · obtain rfl := List.mem_singleton.1 hq
        have := ht2.2
        omega
    · (first | (simp -implicitDefEqProofs (disch := omega) only [go_sem, e2, e4, e7, e8, e11, e41, e42, e58, e64, e66]; done) | (simp -implicitDefEqProofs (disch := omega) only [go_sem, e2, e4, e7, e8, e11, e41, e42, e58, e64, e66]; rfl))
    · (first | (simp -implicitDefEqProofs (disch := omega) only [go_sem, e2, e4, e7, e8, e11, e41, e42, e58, e64, e66]; done) | (simp -implicitDefEqProofs (disch := omega) only [go_sem, e2, e4, e7, e8, e11, e41, e42, e58, e64, e66]; rfl))
    · (first | (simp -implicitDefEqProofs (disch := omega) only [go_sem, e2, e4, e7, e8, e11, e41, e42, e58, e64, e66]; done) | (simp -implicitDefEqProofs (disch := omega) only [go_sem, e2, e4, e7, e8, e11, e41, e42, e58, e64, e66]; rfl))
    · rw [hao]; (first | (simp -implicitDefEqProofs (disch := omega) only [go_sem, e2, e4, e7, e8, e11, e41, e42, e58, e64, e66]; done) | (simp -implicitDefEqProofs (disch := omega) only [go_sem, e2, e4, e7, e8, e11, e41, e42, e58, e64, e66]; rfl))
    · (first | (simp -implicitDefEqProofs (disch := omega) only [go_sem, e2, e4, e7, e8, e11, e41, e42, e58, e64, e66]; done) | (simp -implicitDefEqProofs (disch := omega) only [go_sem, e2, e4, e7, e8, e11, e41, e42, e58, e64, e66]; rfl))
    · (first | (simp -implicitDefEqProofs (disch := omega) only [go_sem, e2, e4, e7, e8, e11, e41, e42, e58, e64, e66]; done) | (simp -implicitDefEqProofs (disch := omega) only [go_sem, e2, e4, e7, e8, e11, e41, e42, e58, e64, e66]; rfl))
    · simp -implicitDefEqProofs (disch := omega) only [go_sem, e2, e4, e7, e8, e11, e41, e42, e58, e64, e66, hmi]; omega
open H
namespace Tb
abbrev Data := (Nat → Int) × List (List Int) × List Int
def mkD (x : Data) : Dfa.D := ⟨x.1, x.2.1, x.2.2, none, 0, fun _ => none, fun _ => 0, none, 0⟩
def datOf (d : Dfa.D) : Data := (d.cls, d.next, d.rules)
theorem build_dat (d : Dfa.D) : build (mkD (datOf d)) = build d := rfl
theorem right_dat (d : Dfa.D) : Dfa.Right (mkD (datOf d)) = Dfa.Right d := rfl
def parse (s : List UInt8) : Option Data × Int :=
  if s.length < 8 then (none, 2) else if s.take 4 ≠ [83, 67, 65, 78] then (none, 12) else if s.drop (s.length - 4) ≠ sumB (s.take (s.length - 4)) then (none, 5) else
  match readD (s.take (s.length - 4)) with
  | none => (none, 4)
  | some x => if build (mkD x) = (s, 0) then (some x, 0) else (none, 4)
theorem parse_right {s : List UInt8} {x : Data} {e : Int} (h : parse s = (some x, e)) : e = 0 ∧ Dfa.Right (mkD x) ∧ build (mkD x) = (s, 0) := by
  unfold parse at h
  split at h
  · cases h
  split at h
  · cases h
  split at h
  · cases h
  split at h
  · cases h
  · split at h
    · rename_i hb
      injection h with h1 h2
      injection h1 with h1
      subst h1 h2
      refine ⟨rfl, ?_, hb⟩
      unfold build at hb
      split at hb
      · assumption
      · injection hb with _ hb; cases hb
    · cases h
end Tb
/-- What a parse hands back, standing still. -/
def StillP (w w' : World) (v : Value) (p : Option Tb.Data × Int) : Prop :=
  Ext [] w w' ∧ ∃ d : Dfa.D, v = .tuple #[d.val, .int .i64 p.2] ∧ Dfa.Mem w' d ∧ DNew w d ∧ (∀ i, 0 ≤ d.cls i ∧ d.cls i ≤ 255) ∧ (∀ n ∈ d.rules, -1 ≤ n ∧ n ≤ 31) ∧ d.next.length ≤ 1000 ∧ (∀ r ∈ d.next, r.length ≤ 256) ∧ Tb.datOf d = p.1.getD (fun _ => 0, [], [])
theorem StillP.none {w w' : World} (e : Int) (hx : Ext [] w w') : StillP w w' (.tuple #[nilD.val, .int .i64 e]) (none, e) :=
  ⟨hx, nilD, rfl, nilD_mem w', nilD_new w, fun i => by simp [nilD], by simp [nilD], by simp [nilD], by simp [nilD], rfl⟩
theorem H.Mem_keepS {w w' w0 : World} {d : Dfa.D} {S : List Nat} (h : Dfa.Mem w d) (hx : Ext S w w') (hn : DNew w0 d) (hS : ∀ k ∈ S, k < w0.heap.size) : Dfa.Mem w' d := by
  have hlt : ∀ k, w0.heap.size ≤ k → k ∉ S := fun k hk hm => by have := hS k hm; omega
  exact ⟨h.next.keepS hx fun k hk => hlt k (hn.a k hk), fun i hi => (h.rows i hi).keepS hx fun k hk => hlt k (hn.ra i hi k hk), h.rules.keepS hx fun k hk => hlt k (hn.ar k hk), h.nlen, h.rlen, h.ulen⟩
theorem DNew.mono {w w1 : World} {d : Dfa.D} (h : DNew w1 d) (hx : w.heap.size ≤ w1.heap.size) : DNew w d :=
  ⟨fun k hk => Nat.le_trans hx (h.a k hk), fun i hi k hk => Nat.le_trans hx (h.ra i hi k hk), fun k hk => Nat.le_trans hx (h.ar k hk)⟩
theorem cls_in {d : Dfa.D} (h : ∀ i, 0 ≤ d.cls i ∧ d.cls i ≤ 255) : ∀ i, i < 256 → Tb.In64 (d.cls i) := fun i _ => ⟨by have := h i; omega, by have := h i; omega⟩
theorem rules_in {d : Dfa.D} (h : ∀ n ∈ d.rules, -1 ≤ n ∧ n ≤ 31) : ∀ i, i < d.rules.length → Tb.In64 (d.rules.getD i 0) := fun i hi => by
  have := h (d.rules.getD i 0) (by rw [List.getD_eq_getElem?_getD, List.getElem?_eq_getElem hi]; exact List.getElem_mem _)
  exact ⟨by omega, by omega⟩
set_option maxRecDepth 20000 in
set_option maxHeartbeats 4000000 in
theorem tb_parse (s : List UInt8) (hsl : s.length ≤ 1000000) (w : World) : Does Try.prog 31 #[str s] w fun v w' => StillP w w' v (Tb.parse s) := by
  refine does (args := [str s]) Try.func31 rfl (by kernel_rfl) (by kernel_rfl) rfl ent_31 (Sat.start w []) ?_; intro QV hQ
  simp -implicitDefEqProofs (disch := omega) only [go_sem]
  refine RNew_intro fun g2 hg2 => ?_
  have hgw2 : w.heap.size ≤ g2 := hg2.1
  have hz : nilD.val = .agg (List.toArray (Dfa.dC (intsV (fun _ => 0) .i64) (.slice none 0 0) (.slice none 0 0))) := rfl
  have hnone : ∀ (e : Int) (S : List Nat) (w1 : World), Ext [] w w1 → (∀ k ∈ S, w.heap.size ≤ k) → ∀ w' h, Sat w' h → Res.anchor w1 S ∈ h → StillP w w' (.tuple #[.agg (List.toArray (Dfa.dC (intsV (fun _ => 0) .i64) (.slice none 0 0) (.slice none 0 0))), .int .i64 e]) (none, e) := fun e S w1 hx hS w' h hs hm => by
    rw [← hz]
    exact StillP.none e (hx.backS (hs.anchor hm) hS)
  have hn0 := fun e w' h hs hm => hnone e [] w (Ext.refl [] w) (by simp) w' h hs hm
  by_cases h1 : s.length < 8
  · have g1 : (s.length : Int) - 4 < 4 := by omega
    have hp : Tb.parse s = (none, 2) := by unfold Tb.parse; rw [if_pos h1]
    rw [hp] at hQ
    simp -implicitDefEqProofs (disch := omega) only [go_sem, g1, decide_true]
    exact hQ _ _ fun w' hs => hn0 2 w' _ hs (by simp)
  have g1 : ¬ (s.length : Int) - 4 < 4 := by omega
  obtain ⟨n, hn⟩ : ∃ n, s.length = n + 4 := ⟨s.length - 4, by omega⟩
  have e1 : (s.length : Int) - 4 = (n : Int) := by omega
  have e2 : s.length - 4 = n := by omega
  have gn : ¬ (n : Int) < 4 := by omega
  by_cases h2 : s.take 4 = [83, 67, 65, 78]
  rotate_left
  · have hp : Tb.parse s = (none, 12) := by unfold Tb.parse; rw [if_neg h1, if_pos h2]
    rw [hp] at hQ
    simp -implicitDefEqProofs (disch := omega) only [go_sem, e1, gn, h2, decide_false]
    exact hQ _ _ fun w' hs => hn0 12 w' _ hs (by simp)
  simp -implicitDefEqProofs (disch := omega) only [go_sem, e1, gn, h2, decide_true, decide_false]
  refine RDraw_seg (by kernel_rfl) (by kernel_rfl) 9 rfl ?_
  refine RS_det (by kernel_rfl) ?_
  repeat (first | refine ToO_step (fun Q hq => by (simp -implicitDefEqProofs (disch := omega) only [go_sem, e1]; exact hq)) ?_ | refine ToO_guard (by (simp -implicitDefEqProofs only [go_sem, e1]; first | done | fail)) (fun Q hq => by (simp -implicitDefEqProofs (disch := omega) only [go_sem, e1]; exact hq)) ?_ | refine ToO_skip (.inl (by (simp -implicitDefEqProofs only [go_sem, e1]; first | done | fail))) ?_ | refine ToO_skip (.inr (by (simp -implicitDefEqProofs only [go_sem, e1]; first | done | fail))) ?_)
  first | refine ToO_step (fun Q hq => by (simp -implicitDefEqProofs (disch := omega) only [go_sem, e1]; refine RCall_eq (tb_sum (s.take n) (by rw [List.length_take]; omega)) ?_; simp -implicitDefEqProofs (disch := omega) only [go_sem, e1]; exact hq)) ?_ | refine ToO_guard (by (simp -implicitDefEqProofs only [go_sem, e1]; first | done | fail)) (fun Q hq => by (simp -implicitDefEqProofs (disch := omega) only [go_sem, e1]; refine RCall_eq (tb_sum (s.take n) (by rw [List.length_take]; omega)) ?_; simp -implicitDefEqProofs (disch := omega) only [go_sem, e1]; exact hq)) ?_
  repeat (first | refine ToO_step (fun Q hq => by (simp -implicitDefEqProofs (disch := omega) only [go_sem, e1]; exact hq)) ?_ | refine ToO_guard (by (simp -implicitDefEqProofs only [go_sem, e1]; first | done | fail)) (fun Q hq => by (simp -implicitDefEqProofs (disch := omega) only [go_sem, e1]; exact hq)) ?_ | refine ToO_skip (.inl (by (simp -implicitDefEqProofs only [go_sem, e1]; first | done | fail))) ?_ | refine ToO_skip (.inr (by (simp -implicitDefEqProofs only [go_sem, e1]; first | done | fail))) ?_)
  refine ToO_nil ?_
  have t1 : (s.take n).length = n := by rw [List.length_take]; omega
  by_cases h3 : s.drop n = Tb.sumB (s.take n)
  rotate_left
  · have hp : Tb.parse s = (none, 5) := by unfold Tb.parse; rw [if_neg h1, if_neg (by simp [h2]), e2, if_pos h3]
    rw [hp] at hQ
    simp -implicitDefEqProofs (disch := omega) only [go_sem, h3, decide_false]
    exact hQ _ _ fun w' hs => hn0 5 w' _ hs (by simp)
  have hp : Tb.parse s = match Tb.readD (s.take n) with
      | none => (none, 4)
      | some l => if Tb.build (Tb.mkD l) = (s, 0) then (some l, 0) else (none, 4) := by unfold Tb.parse; rw [if_neg h1, if_neg (by simp [h2]), e2, if_neg (by simp [h3])]
  rw [hp] at hQ
  clear hp
  simp -implicitDefEqProofs (disch := omega) only [go_sem, h3, decide_true, e1]
  refine RCall_any fun w1 hs1 => (tb_read (s.take n) (by omega) (by omega) w1).mono ?_
  rintro v w2 ⟨hx12, d, rfl, hm, hdn, hc1, hc2, hc3, hc5, hc4⟩
  have hs2 := hs1.ext hx12
  have hg21 : g2 < w1.heap.size := hs1.lt _ List.mem_cons_self g2 rfl
  refine ⟨_, hs2.reanchor, ?_⟩
  have hxw2 : Ext [] w w2 := (hs1.anchor (by simp)).trans hx12
  have hval : d.val = .agg (List.toArray (Dfa.dC (intsV d.cls .i64) (.slice d.a d.next.length d.c) (.slice d.ar d.rules.length d.cr))) := rfl
  have hn2 := fun e w' h hs hm => hnone e [g2] w2 hxw2 (by simp; omega) w' h hs hm
  rw [hval]
  simp -implicitDefEqProofs (disch := omega) only [go_sem]
  refine RNew_intro fun g5 hg5 => ?_
  have n25 : g2 ≠ g5 := Nat.ne_of_lt hg5.1
  cases hrd : Tb.readD (s.take n) with
  | none =>
    rw [hrd] at hQ
    simp -implicitDefEqProofs (disch := omega) only [go_sem, hsetN_ne, n25, Ne.symm n25, Option.isSome_none, Option.isSome_some, Bool.not_true, Bool.not_false]
    exact hQ _ _ fun w' hs => hn2 4 w' _ hs (by simp)
  | some l =>
    rw [hrd] at hQ
    obtain ⟨q1, q2, q3⟩ := hc4 l hrd
    have hdat : Tb.datOf d = l := by unfold Tb.datOf; rw [q1, q2, q3]
    have hbd : Tb.build (Tb.mkD l) = Tb.build d := by rw [← hdat]; rfl
    simp only [hbd] at hQ
    simp -implicitDefEqProofs (disch := omega) only [go_sem, hsetN_ne, n25, Ne.symm n25, Option.isSome_none, Option.isSome_some, Bool.not_true, Bool.not_false]
    refine RCall_eqS (fun w3 hs => by have := tb_build d (cls_in hc1) (rules_in hc2) w3 (H.Mem_keepS hm (S := [g2]) (hs.anchor (by simp)) hdn (by simp; omega)); rw [hval] at this; exact this) ?_
    have hok : ∀ w' h, Sat w' h → Res.anchor w2 [g2] ∈ h → StillP w w' (.tuple #[.agg (List.toArray (Dfa.dC (intsV d.cls .i64) (.slice d.a d.next.length d.c) (.slice d.ar d.rules.length d.cr))), .int .i64 0]) (some l, 0) := fun w' h hs hmm =>
      ⟨hxw2.backS (S := [g2]) (hs.anchor hmm) (by simp; omega), d, rfl, H.Mem_keepS hm (S := [g2]) (hs.anchor hmm) hdn (by simp; omega), hdn.mono (hs1.anchor (w0 := w) (S := []) (by simp)).size, hc1, hc2, hc3, hc5, hdat⟩
    generalize hb : Tb.build d = be at *
    obtain ⟨bb, e⟩ := be
    by_cases he : e = 0
    · by_cases hbs : bb = s
      · rw [if_pos (by rw [he, hbs])] at hQ
        simp -implicitDefEqProofs (disch := omega) only [go_sem, he, hbs, decide_true, hsetN_ne, n25, Ne.symm n25]
        exact hQ _ _ fun w' hs => hok w' _ hs (by simp)
      · rw [if_neg (fun h => hbs (Prod.mk.inj h).1)] at hQ
        simp -implicitDefEqProofs (disch := omega) only [go_sem, he, hbs, decide_true, decide_false, hsetN_ne, n25, Ne.symm n25]
        exact hQ _ _ fun w' hs => hn2 4 w' _ hs (by simp)
    · rw [if_neg (fun h => he (Prod.mk.inj h).2)] at hQ
      simp -implicitDefEqProofs (disch := omega) only [go_sem, he, decide_false, hsetN_ne, n25, Ne.symm n25]
      exact hQ _ _ fun w' hs => hn2 4 w' _ hs (by simp)
end Go.Proofs.Ytldidoaagijnhaa
