/- table's reference: the walk: a table read. -/
import Derived.Test.YtldidoaagijnhaaTbO
namespace Go.Proofs.Ytldidoaagijnhaa
set_option linter.unusedSimpArgs false
set_option linter.unusedVariables false
open H
theorem readD_off {s : List UInt8} (h : (Tb.C0 s).2.2 = false) : Tb.readD s = none := by
  have h1 : Tb.n0 s = (0, (Tb.C0 s).2.1, false) := by unfold Tb.n0; rw [h, Tb.num_off]
  have h2 : Tb.R0 s = ([], (Tb.C0 s).2.1, false) := by unfold Tb.R0; rw [h1]; rfl
  unfold Tb.readD
  rw [h2, if_neg (by simp)]
def clsD (F : Nat → Int) : Dfa.D := ⟨F, [], [], none, 0, fun _ => none, fun _ => 0, none, 0⟩
theorem clsD_mem (F : Nat → Int) (w : World) : Dfa.Mem w (clsD F) :=
  ⟨fun h => absurd h (by simp [clsD]), fun i hi => absurd hi (by simp [clsD]), fun h => absurd h (by simp [clsD]), by simp [clsD], fun i => by simp [clsD, Dfa.row], by simp [clsD]⟩
theorem clsD_new (F : Nat → Int) (w : World) : DNew w (clsD F) := ⟨fun k h => by simp [clsD] at h, fun i hi => absurd hi (by simp [clsD]), fun k h => by simp [clsD] at h⟩
theorem dC_setc (G : Nat → Int) (x y : Value) (k : Nat) (v : Int) (hk : k < 256) : (Dfa.dC (intsV G .i64) x y).set k (.int .i64 v) = Dfa.dC (intsV (fun i => if i = k then v else G i) .i64) x y := by
  unfold Dfa.dC
  rw [List.set_append_left _ _ (by rw [vals_len]; exact hk), vals_put]
/-- The value of a row of rows that stand still. -/
def rwv (rows : List (List Int)) (ra : Nat → Option Addr) (rc : Nat → Nat) (k : Nat) : Value := .slice (ra k) (rows.getD k []).length (rc k)
set_option maxRecDepth 20000 in
set_option maxHeartbeats 8000000 in
theorem rtb_read (s : List UInt8) (hsl : s.length ≤ 1000000) (h4 : 4 ≤ s.length) (w : World) : Does Try.prog 59 #[str s] w fun v w' => StillD w w' v (Tb.readD s) := by
  refine does (args := [str s]) Try.func59 rfl (by kernel_rfl) (by kernel_rfl) rfl ent_59 (Sat.start w []) ?_; intro QV hQ
  simp -implicitDefEqProofs (disch := omega) only [go_sem]
  refine RNew_intro fun g2 hg2 => ?_
  simp -implicitDefEqProofs (disch := omega) only [go_sem]
  refine RNew_intro fun g4 hg4 => ?_
  have n24 : g2 ≠ g4 := Nat.ne_of_lt hg4.1
  simp -implicitDefEqProofs (disch := omega) only [go_sem]
  obtain ⟨⟨z1, z2, z3, z4⟩, ⟨b1, b2, b3, b4⟩, ⟨x1, x2, x3⟩, d1, d2, d3, d4⟩ := Tb.hdr_in s h4
  refine RCall_frame [.cells g4 98 #[str s, .int .i64 4, .bool (!true)]] [.cells g2 48 (List.toArray (Dfa.dC (intsV (fun _ => 0) .i64) (.slice none 0 0) (.slice none 0 0))), .anchor w []] [g4] (fun _ hs => hs) (by simp [Res.fp]) (fun w1 hs => rtb_num s (by omega) 1000 4 true (by omega) g4 w1 (hs.reanchors (by simp [Res.fp]))) ?_
  rintro _ _ ⟨rfl, rfl⟩
  rw [show Tb.num s 1000 4 true = Tb.st0 s from rfl]
  simp -implicitDefEqProofs (disch := omega) only [go_sem]
  refine RCall_frame [.cells g4 98 #[str s, .int .i64 (Tb.st0 s).2.1, .bool (!(Tb.st0 s).2.2)]] [.cells g2 48 (List.toArray (Dfa.dC (intsV (fun _ => 0) .i64) (.slice none 0 0) (.slice none 0 0))), .anchor w []] [g4] (fun _ hs => hs) (by simp [Res.fp]) (fun w1 hs => rtb_num s (by omega) 256 (Tb.st0 s).2.1 (Tb.st0 s).2.2 (by omega) g4 w1 (hs.reanchors (by simp [Res.fp]))) ?_
  rintro _ _ ⟨rfl, rfl⟩
  rw [show Tb.num s 256 (Tb.st0 s).2.1 (Tb.st0 s).2.2 = Tb.cl0 s from rfl]
  simp -implicitDefEqProofs (disch := omega) only [go_sem]
  refine RNew_intro fun gd hgd => ?_
  have n4d : g4 ≠ gd := Nat.ne_of_lt hgd.1
  have n2d : g2 ≠ gd := Nat.ne_of_lt hgd.2.1
  have hgw2 : w.heap.size ≤ g2 := hg2.1
  have hgw4 : w.heap.size ≤ g4 := hg4.2.1
  have hgwd : w.heap.size ≤ gd := hgd.2.2.1
  have hC0 : Tb.C0 s = Tb.clsRead s 257 0 (Tb.cl0 s).2.1 (Tb.cl0 s).2.2 fun _ => 0 := rfl
  simp -implicitDefEqProofs (disch := omega) only [go_sem, hsetN_ne, n24, n4d, n2d, Ne.symm n24, Ne.symm n4d, Ne.symm n2d]
  refine RLoop_join (fun f h => ∃ (F : Nat → Int) (x : Int) (b : Bool), Tb.C0 s = (F, x, b) ∧ f 2 = .pointer (some ⟨g2, 0, none⟩) ∧ f 4 = .pointer (some ⟨g4, 0, none⟩) ∧ f 5 = .int .i64 (Tb.st0 s).1 ∧ f 6 = .int .i64 (Tb.cl0 s).1 ∧ f 7 = .pointer (some ⟨gd, 0, none⟩) ∧
    h = [.cells g4 98 #[str s, .int .i64 x, .bool (!b)], .cells gd 48 (List.toArray (Dfa.dC (intsV F .i64) (.slice none 0 0) (.slice none 0 0))), .cells g2 48 (List.toArray (Dfa.dC (intsV (fun _ => 0) .i64) (.slice none 0 0) (.slice none 0 0))), .anchor w []]) (fun J hJ => ?_) ?_
  · refine RLoop_from (fun f h => ∃ (m c : Nat) (x : Int) (b : Bool) (F : Nat → Int), c ≤ 256 ∧ 257 ≤ m + c ∧ 0 ≤ x ∧ x ≤ s.length ∧ Tb.clsRead s m c x b F = Tb.C0 s ∧ (∀ i, 0 ≤ F i ∧ F i ≤ 255) ∧ f 2 = .pointer (some ⟨g2, 0, none⟩) ∧ f 4 = .pointer (some ⟨g4, 0, none⟩) ∧ f 5 = .int .i64 (Tb.st0 s).1 ∧ f 6 = .int .i64 (Tb.cl0 s).1 ∧ f 7 = .pointer (some ⟨gd, 0, none⟩) ∧ f 8 = .int .i64 (c : Int) ∧
      h = [.cells g4 98 #[str s, .int .i64 x, .bool (!b)], .cells gd 48 (List.toArray (Dfa.dC (intsV F .i64) (.slice none 0 0) (.slice none 0 0))), .cells g2 48 (List.toArray (Dfa.dC (intsV (fun _ => 0) .i64) (.slice none 0 0) (.slice none 0 0))), .anchor w []]) (fun f _ => (256 - ival (f 8)).toNat) ?_ ?_
    · exact fun w1 hs => ⟨_, hs.swap2, 257, 0, (Tb.cl0 s).2.1, (Tb.cl0 s).2.2, fun _ => 0, by omega, by omega, b3, b4, rfl, fun i => by simp, by (first | (simp -implicitDefEqProofs (disch := omega) only [go_sem]; done) | (simp -implicitDefEqProofs (disch := omega) only [go_sem]; rfl)), by (first | (simp -implicitDefEqProofs (disch := omega) only [go_sem]; done) | (simp -implicitDefEqProofs (disch := omega) only [go_sem]; rfl)), by (first | (simp -implicitDefEqProofs (disch := omega) only [go_sem]; done) | (simp -implicitDefEqProofs (disch := omega) only [go_sem]; rfl)), by (first | (simp -implicitDefEqProofs (disch := omega) only [go_sem]; done) | (simp -implicitDefEqProofs (disch := omega) only [go_sem]; rfl)), by (first | (simp -implicitDefEqProofs (disch := omega) only [go_sem]; done) | (simp -implicitDefEqProofs (disch := omega) only [go_sem]; rfl)), by (first | (simp -implicitDefEqProofs (disch := omega) only [go_sem]; done) | (simp -implicitDefEqProofs (disch := omega) only [go_sem]; rfl)), rfl⟩
    rintro f h ⟨m, c, x, b, F, hc, hmc, hx0, hx1, hgo, hF, e2, e4, e5, e6, e7, e8, rfl⟩ Q' hQ'
    have hmi : ival (f 8) = (c : Int) := by rw [e8]; rfl
    obtain ⟨m, rfl⟩ : ∃ k, m = k + 1 := ⟨m - 1, by omega⟩
    rw [Tb.clsRead] at hgo
    by_cases hcl : c < 256
    rotate_left
    · have c0 : decide ((c : Int) < 256) = false := decide_eq_false (by omega)
      rw [if_neg (fun h => hcl h.1)] at hgo
      simp -implicitDefEqProofs (disch := omega) only [go_sem, e2, e4, e5, e6, e7, e8, c0]
      exact hJ _ _ ⟨F, x, b, hgo.symm, by (first | (simp -implicitDefEqProofs (disch := omega) only [go_sem, e2, e4, e5, e6, e7, e8]; done) | (simp -implicitDefEqProofs (disch := omega) only [go_sem, e2, e4, e5, e6, e7, e8]; rfl)), by (first | (simp -implicitDefEqProofs (disch := omega) only [go_sem, e2, e4, e5, e6, e7, e8]; done) | (simp -implicitDefEqProofs (disch := omega) only [go_sem, e2, e4, e5, e6, e7, e8]; rfl)), by (first | (simp -implicitDefEqProofs (disch := omega) only [go_sem, e2, e4, e5, e6, e7, e8]; done) | (simp -implicitDefEqProofs (disch := omega) only [go_sem, e2, e4, e5, e6, e7, e8]; rfl)), by (first | (simp -implicitDefEqProofs (disch := omega) only [go_sem, e2, e4, e5, e6, e7, e8]; done) | (simp -implicitDefEqProofs (disch := omega) only [go_sem, e2, e4, e5, e6, e7, e8]; rfl)), by (first | (simp -implicitDefEqProofs (disch := omega) only [go_sem, e2, e4, e5, e6, e7, e8]; done) | (simp -implicitDefEqProofs (disch := omega) only [go_sem, e2, e4, e5, e6, e7, e8]; rfl)), rfl⟩
    have c0 : decide ((c : Int) < 256) = true := decide_eq_true (by omega)
    cases b with
    | false =>
      rw [if_neg (by simp)] at hgo
      simp -implicitDefEqProofs (disch := omega) only [go_sem, e2, e4, e5, e6, e7, e8, c0, Bool.not_false, Bool.not_true]
      exact hJ _ _ ⟨F, x, false, hgo.symm, by (first | (simp -implicitDefEqProofs (disch := omega) only [go_sem, e2, e4, e5, e6, e7, e8]; done) | (simp -implicitDefEqProofs (disch := omega) only [go_sem, e2, e4, e5, e6, e7, e8]; rfl)), by (first | (simp -implicitDefEqProofs (disch := omega) only [go_sem, e2, e4, e5, e6, e7, e8]; done) | (simp -implicitDefEqProofs (disch := omega) only [go_sem, e2, e4, e5, e6, e7, e8]; rfl)), by (first | (simp -implicitDefEqProofs (disch := omega) only [go_sem, e2, e4, e5, e6, e7, e8]; done) | (simp -implicitDefEqProofs (disch := omega) only [go_sem, e2, e4, e5, e6, e7, e8]; rfl)), by (first | (simp -implicitDefEqProofs (disch := omega) only [go_sem, e2, e4, e5, e6, e7, e8]; done) | (simp -implicitDefEqProofs (disch := omega) only [go_sem, e2, e4, e5, e6, e7, e8]; rfl)), by (first | (simp -implicitDefEqProofs (disch := omega) only [go_sem, e2, e4, e5, e6, e7, e8]; done) | (simp -implicitDefEqProofs (disch := omega) only [go_sem, e2, e4, e5, e6, e7, e8]; rfl)), rfl⟩
    | true =>
      rw [if_pos ⟨hcl, rfl⟩] at hgo
      simp -implicitDefEqProofs (disch := omega) only [go_sem, e2, e4, e5, e6, e7, e8, c0, Bool.not_false, Bool.not_true]
      refine RCall_frame [.cells g4 98 #[str s, .int .i64 x, .bool (!true)]] [.cells gd 48 (List.toArray (Dfa.dC (intsV F .i64) (.slice none 0 0) (.slice none 0 0))), .cells g2 48 (List.toArray (Dfa.dC (intsV (fun _ => 0) .i64) (.slice none 0 0) (.slice none 0 0))), .anchor w []] [g4] (fun _ hs => hs) (by simp [Res.fp]) (fun w1 hs => rtb_num s (by omega) 255 x true (by omega) g4 w1 (hs.reanchors (by simp [Res.fp]))) ?_
      rintro _ _ ⟨rfl, rfl⟩
      obtain ⟨p1, p2, p3, p4, p5⟩ := Tb.num_in s 255 x true hx0 hx1
      generalize Tb.num s 255 x true = y at *
      obtain ⟨k, xa, b1⟩ := y
      simp only [] at p1 p2 p3 p4 p5 hgo ⊢
      simp -implicitDefEqProofs (disch := omega) only [go_sem, e2, e4, e5, e6, e7, e8]
      refine RCall_frame [.cells g4 98 #[str s, .int .i64 xa, .bool (!b1)]] [.cells gd 48 (List.toArray (Dfa.dC (intsV F .i64) (.slice none 0 0) (.slice none 0 0))), .cells g2 48 (List.toArray (Dfa.dC (intsV (fun _ => 0) .i64) (.slice none 0 0) (.slice none 0 0))), .anchor w []] [g4] (fun _ hs => hs) (by simp [Res.fp]) (fun w1 hs => rtb_num s (by omega) (256 - (c : Int)) xa b1 (by omega) g4 w1 (hs.reanchors (by simp [Res.fp]))) ?_
      rintro _ _ ⟨rfl, rfl⟩
      obtain ⟨q1, q2, q3, q4, q5⟩ := Tb.num_in s (256 - (c : Int)) xa b1 (by omega) p5
      have hz := @Tb.num_zero s (256 - (c : Int)) xa b1
      generalize Tb.num s (256 - (c : Int)) xa b1 = y at *
      obtain ⟨n, xb, b2⟩ := y
      simp only [] at q1 q2 q3 q4 q5 hgo hz ⊢
      obtain ⟨n, rfl⟩ : ∃ k : Nat, n = (k : Int) := ⟨n.toNat, by omega⟩
      by_cases hn0 : n = 0
      · subst hn0
        rw [if_neg (by simp)] at hgo
        have hnone : Tb.readD s = none := readD_off (by rw [← hgo])
        rw [hnone] at hQ
        have hd : decide (((0 : Nat) : Int) = 0) = true := rfl
        simp -implicitDefEqProofs (disch := omega) only [go_sem, e2, e4, e5, e6, e7, e8, hd, hsetN_ne, n24, n4d, n2d, Ne.symm n24, Ne.symm n4d, Ne.symm n2d]
        exact hQ _ _ fun w' hs => ⟨hs.anchor (by simp), clsD F, rfl, clsD_mem F w', clsD_new F w, hF, by simp [clsD], by simp [clsD], by simp [clsD], fun _ h => by cases h⟩
      have hb2 : b2 = true := by
        cases b2 with
        | true => rfl
        | false => exact absurd (hz rfl) (by omega)
      subst hb2
      rw [if_pos ⟨rfl, by omega⟩, Int.toNat_natCast] at hgo
      have hd : decide ((n : Int) = 0) = false := decide_eq_false (by omega)
      have hcn : c + n ≤ 256 := by omega
      simp -implicitDefEqProofs (disch := omega) only [go_sem, e2, e4, e5, e6, e7, e8, hd]
      refine RLoop_from (fun f h => ∃ (j : Nat) (G : Nat → Int), j ≤ n ∧ (∀ i, G i = if c ≤ i ∧ i < c + j then k else F i) ∧ f 2 = .pointer (some ⟨g2, 0, none⟩) ∧ f 4 = .pointer (some ⟨g4, 0, none⟩) ∧ f 5 = .int .i64 (Tb.st0 s).1 ∧ f 6 = .int .i64 (Tb.cl0 s).1 ∧ f 7 = .pointer (some ⟨gd, 0, none⟩) ∧ f 8 = .int .i64 (c : Int) ∧ f 9 = .int .i64 k ∧ f 10 = .int .i64 (n : Int) ∧ f 11 = .int .i64 (j : Int) ∧
        h = [.cells g4 98 #[str s, .int .i64 xb, .bool false], .cells gd 48 (List.toArray (Dfa.dC (intsV G .i64) (.slice none 0 0) (.slice none 0 0))), .cells g2 48 (List.toArray (Dfa.dC (intsV (fun _ => 0) .i64) (.slice none 0 0) (.slice none 0 0))), .anchor w []]) (fun f _ => (n - ival (f 11)).toNat) ?_ ?_
      · exact fun w1 hs => ⟨_, hs, 0, F, by omega, fun i => by rw [if_neg (by omega)], by (first | (simp -implicitDefEqProofs (disch := omega) only [go_sem, e2, e4, e5, e6, e7, e8]; done) | (simp -implicitDefEqProofs (disch := omega) only [go_sem, e2, e4, e5, e6, e7, e8]; rfl)), by (first | (simp -implicitDefEqProofs (disch := omega) only [go_sem, e2, e4, e5, e6, e7, e8]; done) | (simp -implicitDefEqProofs (disch := omega) only [go_sem, e2, e4, e5, e6, e7, e8]; rfl)), by (first | (simp -implicitDefEqProofs (disch := omega) only [go_sem, e2, e4, e5, e6, e7, e8]; done) | (simp -implicitDefEqProofs (disch := omega) only [go_sem, e2, e4, e5, e6, e7, e8]; rfl)), by (first | (simp -implicitDefEqProofs (disch := omega) only [go_sem, e2, e4, e5, e6, e7, e8]; done) | (simp -implicitDefEqProofs (disch := omega) only [go_sem, e2, e4, e5, e6, e7, e8]; rfl)), by (first | (simp -implicitDefEqProofs (disch := omega) only [go_sem, e2, e4, e5, e6, e7, e8]; done) | (simp -implicitDefEqProofs (disch := omega) only [go_sem, e2, e4, e5, e6, e7, e8]; rfl)), by (first | (simp -implicitDefEqProofs (disch := omega) only [go_sem, e2, e4, e5, e6, e7, e8]; done) | (simp -implicitDefEqProofs (disch := omega) only [go_sem, e2, e4, e5, e6, e7, e8]; rfl)), by (first | (simp -implicitDefEqProofs (disch := omega) only [go_sem, e2, e4, e5, e6, e7, e8]; done) | (simp -implicitDefEqProofs (disch := omega) only [go_sem, e2, e4, e5, e6, e7, e8]; rfl)), by (first | (simp -implicitDefEqProofs (disch := omega) only [go_sem, e2, e4, e5, e6, e7, e8]; done) | (simp -implicitDefEqProofs (disch := omega) only [go_sem, e2, e4, e5, e6, e7, e8]; rfl)), by (first | (simp -implicitDefEqProofs (disch := omega) only [go_sem, e2, e4, e5, e6, e7, e8]; done) | (simp -implicitDefEqProofs (disch := omega) only [go_sem, e2, e4, e5, e6, e7, e8]; rfl)), rfl⟩
      clear e2 e4 e5 e6 e7 e8
      rintro f h ⟨j, G, hj, hG, e2, e4, e5, e6, e7, e8, e9, e10, e11, rfl⟩ Q2 hQ2
      have hmj : ival (f 11) = (j : Int) := by rw [e11]; rfl
      by_cases hjl : j < n
      · have j0 : (j : Int) < (n : Int) := by omega
        have j1 : (c : Int) + (j : Int) = ((c + j : Nat) : Int) := by omega
        have j2 : c + j < 256 := by omega
        have j3 : ((c + j : Nat) : Int) < 256 := by omega
        simp -implicitDefEqProofs (disch := omega) only [go_sem, e2, e4, e5, e6, e7, e8, e9, e10, e11, j0, j1, j2, j3, hsetN_ne, n24, n4d, n2d, Ne.symm n24, Ne.symm n4d, Ne.symm n2d, decide_true]
        rw [dC_setc _ _ _ _ _ j2]
        refine hQ2 _ _ fun w1 hs => ⟨_, hs, ⟨j + 1, _, by omega, fun i => ?_, ?_, ?_, ?_, ?_, ?_, ?_, ?_, ?_, ?_, rfl⟩, ?_⟩
        · show (if i = c + j then k else G i) = _
          rw [hG i]
          by_cases h1 : i = c + j
          · rw [if_pos h1, if_pos (by omega)]
          · rw [if_neg h1]
            by_cases h2 : c ≤ i ∧ i < c + j
            · rw [if_pos h2, if_pos (by omega)]
            · rw [if_neg h2, if_neg (by omega)]
        · (first | (simp -implicitDefEqProofs (disch := omega) only [go_sem, e2, e4, e5, e6, e7, e8, e9, e10, e11]; done) | (simp -implicitDefEqProofs (disch := omega) only [go_sem, e2, e4, e5, e6, e7, e8, e9, e10, e11]; rfl))
        · (first | (simp -implicitDefEqProofs (disch := omega) only [go_sem, e2, e4, e5, e6, e7, e8, e9, e10, e11]; done) | (simp -implicitDefEqProofs (disch := omega) only [go_sem, e2, e4, e5, e6, e7, e8, e9, e10, e11]; rfl))
        · (first | (simp -implicitDefEqProofs (disch := omega) only [go_sem, e2, e4, e5, e6, e7, e8, e9, e10, e11]; done) | (simp -implicitDefEqProofs (disch := omega) only [go_sem, e2, e4, e5, e6, e7, e8, e9, e10, e11]; rfl))
        · (first | (simp -implicitDefEqProofs (disch := omega) only [go_sem, e2, e4, e5, e6, e7, e8, e9, e10, e11]; done) | (simp -implicitDefEqProofs (disch := omega) only [go_sem, e2, e4, e5, e6, e7, e8, e9, e10, e11]; rfl))
        · (first | (simp -implicitDefEqProofs (disch := omega) only [go_sem, e2, e4, e5, e6, e7, e8, e9, e10, e11]; done) | (simp -implicitDefEqProofs (disch := omega) only [go_sem, e2, e4, e5, e6, e7, e8, e9, e10, e11]; rfl))
        · (first | (simp -implicitDefEqProofs (disch := omega) only [go_sem, e2, e4, e5, e6, e7, e8, e9, e10, e11]; done) | (simp -implicitDefEqProofs (disch := omega) only [go_sem, e2, e4, e5, e6, e7, e8, e9, e10, e11]; rfl))
        · (first | (simp -implicitDefEqProofs (disch := omega) only [go_sem, e2, e4, e5, e6, e7, e8, e9, e10, e11]; done) | (simp -implicitDefEqProofs (disch := omega) only [go_sem, e2, e4, e5, e6, e7, e8, e9, e10, e11]; rfl))
        · (first | (simp -implicitDefEqProofs (disch := omega) only [go_sem, e2, e4, e5, e6, e7, e8, e9, e10, e11]; done) | (simp -implicitDefEqProofs (disch := omega) only [go_sem, e2, e4, e5, e6, e7, e8, e9, e10, e11]; rfl))
        · (first | (simp -implicitDefEqProofs (disch := omega) only [go_sem, e2, e4, e5, e6, e7, e8, e9, e10, e11]; done) | (simp -implicitDefEqProofs (disch := omega) only [go_sem, e2, e4, e5, e6, e7, e8, e9, e10, e11]; rfl))
        · simp -implicitDefEqProofs (disch := omega) only [go_sem, e2, e4, e5, e6, e7, e8, e9, e10, e11, hmj]; omega
      have j0 : ¬ (j : Int) < (n : Int) := by omega
      obtain rfl : j = n := by omega
      obtain rfl : G = fun i => if c ≤ i ∧ i < c + j then k else F i := funext hG
      simp -implicitDefEqProofs (disch := omega) only [go_sem, e2, e4, e5, e6, e7, e8, e9, e10, e11, j0, decide_false]
      refine hQ' _ _ fun w1 hs => ⟨_, hs, ⟨m, c + j, xb, true, _, by omega, by omega, by omega, q5, hgo, fun i => ?_, ?_, ?_, ?_, ?_, ?_, ?_, rfl⟩, ?_⟩
      · split
        · omega
        · exact hF i
      · (first | (simp -implicitDefEqProofs (disch := omega) only [go_sem, e2, e4, e5, e6, e7, e8, e9, e10, e11]; done) | (simp -implicitDefEqProofs (disch := omega) only [go_sem, e2, e4, e5, e6, e7, e8, e9, e10, e11]; rfl))
      · (first | (simp -implicitDefEqProofs (disch := omega) only [go_sem, e2, e4, e5, e6, e7, e8, e9, e10, e11]; done) | (simp -implicitDefEqProofs (disch := omega) only [go_sem, e2, e4, e5, e6, e7, e8, e9, e10, e11]; rfl))
      · (first | (simp -implicitDefEqProofs (disch := omega) only [go_sem, e2, e4, e5, e6, e7, e8, e9, e10, e11]; done) | (simp -implicitDefEqProofs (disch := omega) only [go_sem, e2, e4, e5, e6, e7, e8, e9, e10, e11]; rfl))
      · (first | (simp -implicitDefEqProofs (disch := omega) only [go_sem, e2, e4, e5, e6, e7, e8, e9, e10, e11]; done) | (simp -implicitDefEqProofs (disch := omega) only [go_sem, e2, e4, e5, e6, e7, e8, e9, e10, e11]; rfl))
      · (first | (simp -implicitDefEqProofs (disch := omega) only [go_sem, e2, e4, e5, e6, e7, e8, e9, e10, e11]; done) | (simp -implicitDefEqProofs (disch := omega) only [go_sem, e2, e4, e5, e6, e7, e8, e9, e10, e11]; rfl))
      · (first | (simp -implicitDefEqProofs (disch := omega) only [go_sem, e2, e4, e5, e6, e7, e8, e9, e10, e11]; done) | (simp -implicitDefEqProofs (disch := omega) only [go_sem, e2, e4, e5, e6, e7, e8, e9, e10, e11]; rfl))
      · simp -implicitDefEqProofs (disch := omega) only [go_sem, e2, e4, e5, e6, e7, e8, e9, e10, e11, hmi]; omega
  rintro f h ⟨F, xa, wh, hcls, e2, e4, e5, e6, e7, rfl⟩
  rw [hcls] at x1 x2 x3
  simp only [] at x1 x2 x3
  simp -implicitDefEqProofs (disch := omega) only [go_sem, e2, e4, e5, e6, e7]
  refine RCall_frame [.cells g4 98 #[str s, .int .i64 xa, .bool (!wh)]] [.cells gd 48 (List.toArray (Dfa.dC (intsV F .i64) (.slice none 0 0) (.slice none 0 0))), .cells g2 48 (List.toArray (Dfa.dC (intsV (fun _ => 0) .i64) (.slice none 0 0) (.slice none 0 0))), .anchor w []] [g4] (fun _ hs => hs) (by simp [Res.fp]) (fun w1 hs => rtb_num s (by omega) 1000 xa wh (by omega) g4 w1 (hs.reanchors (by simp [Res.fp]))) ?_
  rintro _ _ ⟨rfl, rfl⟩
  have hn0 : Tb.num s 1000 xa wh = Tb.n0 s := by unfold Tb.n0; rw [hcls]
  rw [hn0]
  obtain ⟨r1, r2, r3, r4, r5⟩ := Tb.R0_in s h4
  have hR0 : Tb.R0 s = Tb.rowsGo s (Tb.cl0 s).1.toNat (Tb.n0 s).1.toNat (Tb.n0 s).2.1 (Tb.n0 s).2.2 [] := rfl
  have hRD : Tb.readD s = if (Tb.R0 s).2.2 = true then (Tb.statesGo s (Tb.R0 s).1 (Tb.st0 s).1.toNat (Tb.R0 s).2.1 [] []).map fun x => ((Tb.C0 s).1, x.1, x.2) else none := rfl
  rw [hcls] at hRD
  clear hC0 hcls
  generalize Tb.n0 s = nn at *
  obtain ⟨nn, xn, bn⟩ := nn
  generalize Tb.cl0 s = cc at *
  obtain ⟨cl, xc, bc⟩ := cc
  generalize Tb.st0 s = ss at *
  obtain ⟨st, xs, bs⟩ := ss
  generalize Tb.R0 s = RR at *
  obtain ⟨rows, xr, br⟩ := RR
  simp only [] at z1 z2 z3 z4 b1 b2 b3 b4 d1 d2 d3 d4 hR0 hRD r1 r2 r3 r4 r5 e5 e6
  obtain ⟨nn, rfl⟩ : ∃ m : Nat, nn = (m : Int) := ⟨nn.toNat, by omega⟩
  obtain ⟨cl, rfl⟩ : ∃ m : Nat, cl = (m : Int) := ⟨cl.toNat, by omega⟩
  obtain ⟨st, rfl⟩ : ∃ m : Nat, st = (m : Int) := ⟨st.toNat, by omega⟩
  simp only [Int.toNat_natCast] at hR0 hRD r5
  simp -implicitDefEqProofs (disch := omega) only [go_sem, e2, e4, e5, e6, e7]
  refine RLoop_join (fun f h => ∃ (ao : Option Addr) (co n : Nat) (vs : Nat → Value), n = rows.length ∧ n ≤ co ∧ f 2 = .pointer (some ⟨g2, 0, none⟩) ∧ f 4 = .pointer (some ⟨g4, 0, none⟩) ∧ f 5 = .int .i64 (st : Int) ∧ f 7 = .pointer (some ⟨gd, 0, none⟩) ∧ f 12 = .int .i64 (nn : Int) ∧ f 13 = .slice ao n co ∧
    h = [.cells g4 98 #[str s, .int .i64 xr, .bool (!br)], RowsOwn 3 (fun k => k < n) vs (fun k => iv (rows.getD k [])), Own 46 1 (.slice ao n co) n ((List.range n).map vs), .cells gd 48 (List.toArray (Dfa.dC (intsV F .i64) (.slice none 0 0) (.slice none 0 0))), .cells g2 48 (List.toArray (Dfa.dC (intsV (fun _ => 0) .i64) (.slice none 0 0) (.slice none 0 0))), .anchor w []]) (fun J hJ => ?_) ?_
  · refine RLoop_from (fun f h => ∃ (m i : Nat) (x : Int) (b : Bool) (acc : List (List Int)) (ao : Option Addr) (co n : Nat) (vs : Nat → Value), n = acc.length ∧ i + m = nn ∧ n ≤ co ∧ n + m ≤ 1000 ∧ 0 ≤ x ∧ x ≤ s.length ∧ Tb.rowsGo s cl m x b acc = (rows, xr, br) ∧ f 2 = .pointer (some ⟨g2, 0, none⟩) ∧ f 4 = .pointer (some ⟨g4, 0, none⟩) ∧ f 5 = .int .i64 (st : Int) ∧ f 6 = .int .i64 (cl : Int) ∧ f 7 = .pointer (some ⟨gd, 0, none⟩) ∧ f 12 = .int .i64 (nn : Int) ∧ f 13 = .slice ao n co ∧ f 14 = .int .i64 (i : Int) ∧
      h = [.cells g4 98 #[str s, .int .i64 x, .bool (!b)], RowsOwn 3 (fun k => k < n) vs (fun k => iv (acc.getD k [])), Own 46 1 (.slice ao n co) n ((List.range n).map vs), .cells gd 48 (List.toArray (Dfa.dC (intsV F .i64) (.slice none 0 0) (.slice none 0 0))), .cells g2 48 (List.toArray (Dfa.dC (intsV (fun _ => 0) .i64) (.slice none 0 0) (.slice none 0 0))), .anchor w []]) (fun f _ => (nn - ival (f 14)).toNat) ?_ ?_
    · refine fun w1 hs => ⟨_, ?_, nn, 0, xn, bn, [], none, 0, 0, fun _ => .slice none 0 0, rfl, by omega, by omega, by omega, d3, d4, hR0.symm, by (first | (simp -implicitDefEqProofs (disch := omega) only [go_sem, e2, e4, e5, e6, e7]; done) | (simp -implicitDefEqProofs (disch := omega) only [go_sem, e2, e4, e5, e6, e7]; rfl)), by (first | (simp -implicitDefEqProofs (disch := omega) only [go_sem, e2, e4, e5, e6, e7]; done) | (simp -implicitDefEqProofs (disch := omega) only [go_sem, e2, e4, e5, e6, e7]; rfl)), by (first | (simp -implicitDefEqProofs (disch := omega) only [go_sem, e2, e4, e5, e6, e7]; done) | (simp -implicitDefEqProofs (disch := omega) only [go_sem, e2, e4, e5, e6, e7]; rfl)), by (first | (simp -implicitDefEqProofs (disch := omega) only [go_sem, e2, e4, e5, e6, e7]; done) | (simp -implicitDefEqProofs (disch := omega) only [go_sem, e2, e4, e5, e6, e7]; rfl)), by (first | (simp -implicitDefEqProofs (disch := omega) only [go_sem, e2, e4, e5, e6, e7]; done) | (simp -implicitDefEqProofs (disch := omega) only [go_sem, e2, e4, e5, e6, e7]; rfl)), by (first | (simp -implicitDefEqProofs (disch := omega) only [go_sem, e2, e4, e5, e6, e7]; done) | (simp -implicitDefEqProofs (disch := omega) only [go_sem, e2, e4, e5, e6, e7]; rfl)), by (first | (simp -implicitDefEqProofs (disch := omega) only [go_sem, e2, e4, e5, e6, e7]; done) | (simp -implicitDefEqProofs (disch := omega) only [go_sem, e2, e4, e5, e6, e7]; rfl)), by (first | (simp -implicitDefEqProofs (disch := omega) only [go_sem, e2, e4, e5, e6, e7]; done) | (simp -implicitDefEqProofs (disch := omega) only [go_sem, e2, e4, e5, e6, e7]; rfl)), rfl⟩
      exact Sat.perm (List.perm_middle (l₁ := [_, _])) (Sat.rows_nil 3 _ (hs.own_nil 46 1))
    clear e2 e4 e5 e6 e7
    rintro f h ⟨m, i, x, b, acc, ao, co, n, vs, hn, him, hnc, hnm, hx0, hx1, hgo, e2, e4, e5, e6, e7, e12, e13, e14, rfl⟩ Q' hQ'
    have hmi : ival (f 14) = (i : Int) := by rw [e14]; rfl
    cases m with
    | zero =>
      rw [Tb.rowsGo] at hgo
      injection hgo with h1 h2
      injection h2 with h2 h3
      subst h1 h2 h3
      have g0 : decide ((i : Int) < (nn : Int)) = false := decide_eq_false (by omega)
      simp -implicitDefEqProofs (disch := omega) only [go_sem, e2, e4, e5, e6, e7, e12, e13, e14, g0]
      exact hJ _ _ ⟨ao, co, n, vs, hn, hnc, by (first | (simp -implicitDefEqProofs (disch := omega) only [go_sem, e2, e4, e5, e6, e7, e12, e13, e14]; done) | (simp -implicitDefEqProofs (disch := omega) only [go_sem, e2, e4, e5, e6, e7, e12, e13, e14]; rfl)), by (first | (simp -implicitDefEqProofs (disch := omega) only [go_sem, e2, e4, e5, e6, e7, e12, e13, e14]; done) | (simp -implicitDefEqProofs (disch := omega) only [go_sem, e2, e4, e5, e6, e7, e12, e13, e14]; rfl)), by (first | (simp -implicitDefEqProofs (disch := omega) only [go_sem, e2, e4, e5, e6, e7, e12, e13, e14]; done) | (simp -implicitDefEqProofs (disch := omega) only [go_sem, e2, e4, e5, e6, e7, e12, e13, e14]; rfl)), by (first | (simp -implicitDefEqProofs (disch := omega) only [go_sem, e2, e4, e5, e6, e7, e12, e13, e14]; done) | (simp -implicitDefEqProofs (disch := omega) only [go_sem, e2, e4, e5, e6, e7, e12, e13, e14]; rfl)), by (first | (simp -implicitDefEqProofs (disch := omega) only [go_sem, e2, e4, e5, e6, e7, e12, e13, e14]; done) | (simp -implicitDefEqProofs (disch := omega) only [go_sem, e2, e4, e5, e6, e7, e12, e13, e14]; rfl)), by (first | (simp -implicitDefEqProofs (disch := omega) only [go_sem, e2, e4, e5, e6, e7, e12, e13, e14]; done) | (simp -implicitDefEqProofs (disch := omega) only [go_sem, e2, e4, e5, e6, e7, e12, e13, e14]; rfl)), rfl⟩
    | succ m =>
      have g0 : decide ((i : Int) < (nn : Int)) = true := decide_eq_true (by omega)
      rw [Tb.rowsGo] at hgo
      cases b with
      | false =>
        rw [if_neg (by simp)] at hgo
        injection hgo with h1 h2
        injection h2 with h2 h3
        subst h1 h2 h3
        simp -implicitDefEqProofs (disch := omega) only [go_sem, e2, e4, e5, e6, e7, e12, e13, e14, g0]
        exact hJ _ _ ⟨ao, co, n, vs, hn, hnc, by (first | (simp -implicitDefEqProofs (disch := omega) only [go_sem, e2, e4, e5, e6, e7, e12, e13, e14]; done) | (simp -implicitDefEqProofs (disch := omega) only [go_sem, e2, e4, e5, e6, e7, e12, e13, e14]; rfl)), by (first | (simp -implicitDefEqProofs (disch := omega) only [go_sem, e2, e4, e5, e6, e7, e12, e13, e14]; done) | (simp -implicitDefEqProofs (disch := omega) only [go_sem, e2, e4, e5, e6, e7, e12, e13, e14]; rfl)), by (first | (simp -implicitDefEqProofs (disch := omega) only [go_sem, e2, e4, e5, e6, e7, e12, e13, e14]; done) | (simp -implicitDefEqProofs (disch := omega) only [go_sem, e2, e4, e5, e6, e7, e12, e13, e14]; rfl)), by (first | (simp -implicitDefEqProofs (disch := omega) only [go_sem, e2, e4, e5, e6, e7, e12, e13, e14]; done) | (simp -implicitDefEqProofs (disch := omega) only [go_sem, e2, e4, e5, e6, e7, e12, e13, e14]; rfl)), by (first | (simp -implicitDefEqProofs (disch := omega) only [go_sem, e2, e4, e5, e6, e7, e12, e13, e14]; done) | (simp -implicitDefEqProofs (disch := omega) only [go_sem, e2, e4, e5, e6, e7, e12, e13, e14]; rfl)), by (first | (simp -implicitDefEqProofs (disch := omega) only [go_sem, e2, e4, e5, e6, e7, e12, e13, e14]; done) | (simp -implicitDefEqProofs (disch := omega) only [go_sem, e2, e4, e5, e6, e7, e12, e13, e14]; rfl)), rfl⟩
      | true =>
        rw [if_pos rfl] at hgo
        obtain ⟨o1, o2, o3, o4⟩ := Tb.rowGo_in s cl x true [] hx0 hx1 (by simp)
        obtain ⟨T, hT⟩ : ∃ T, T = [RowsOwn 3 (fun k => k < n) vs (fun k => iv (acc.getD k [])), Own 46 1 (.slice ao n co) n ((List.range n).map vs), .cells gd 48 (List.toArray (Dfa.dC (intsV F .i64) (.slice none 0 0) (.slice none 0 0))), .cells g2 48 (List.toArray (Dfa.dC (intsV (fun _ => 0) .i64) (.slice none 0 0) (.slice none 0 0))), .anchor w []] := ⟨_, rfl⟩
        simp -implicitDefEqProofs (disch := omega) only [go_sem, e2, e4, e5, e6, e7, e12, e13, e14, g0]
        rw [← hT]
        refine RLoop_from (fun f h => ∃ (j : Nat) (x' : Int) (b' : Bool) (r : List Int) (a' : Option Addr) (c' : Nat), j ≤ cl ∧ j ≤ c' ∧ r.length = j ∧ 0 ≤ x' ∧ x' ≤ s.length ∧ Tb.rowGo s (cl - j) x' b' r = Tb.rowGo s cl x true [] ∧ f 2 = .pointer (some ⟨g2, 0, none⟩) ∧ f 4 = .pointer (some ⟨g4, 0, none⟩) ∧ f 5 = .int .i64 (st : Int) ∧ f 6 = .int .i64 (cl : Int) ∧ f 7 = .pointer (some ⟨gd, 0, none⟩) ∧ f 12 = .int .i64 (nn : Int) ∧ f 13 = .slice ao n co ∧ f 14 = .int .i64 (i : Int) ∧ f 15 = .slice a' j c' ∧ f 16 = .int .i64 (j : Int) ∧
          h = .cells g4 98 #[str s, .int .i64 x', .bool (!b')] :: Own 3 1 (.slice a' j c') j (iv r) :: T) (fun f _ => (cl - ival (f 16)).toNat) ?_ ?_
        · exact fun w1 hs => ⟨_, (hs.own_nil 3 1).swap2, 0, x, true, [], none, 0, by omega, by omega, rfl, hx0, hx1, rfl, by (first | (simp -implicitDefEqProofs (disch := omega) only [go_sem, e2, e4, e5, e6, e7, e12, e13, e14]; done) | (simp -implicitDefEqProofs (disch := omega) only [go_sem, e2, e4, e5, e6, e7, e12, e13, e14]; rfl)), by (first | (simp -implicitDefEqProofs (disch := omega) only [go_sem, e2, e4, e5, e6, e7, e12, e13, e14]; done) | (simp -implicitDefEqProofs (disch := omega) only [go_sem, e2, e4, e5, e6, e7, e12, e13, e14]; rfl)), by (first | (simp -implicitDefEqProofs (disch := omega) only [go_sem, e2, e4, e5, e6, e7, e12, e13, e14]; done) | (simp -implicitDefEqProofs (disch := omega) only [go_sem, e2, e4, e5, e6, e7, e12, e13, e14]; rfl)), by (first | (simp -implicitDefEqProofs (disch := omega) only [go_sem, e2, e4, e5, e6, e7, e12, e13, e14]; done) | (simp -implicitDefEqProofs (disch := omega) only [go_sem, e2, e4, e5, e6, e7, e12, e13, e14]; rfl)), by (first | (simp -implicitDefEqProofs (disch := omega) only [go_sem, e2, e4, e5, e6, e7, e12, e13, e14]; done) | (simp -implicitDefEqProofs (disch := omega) only [go_sem, e2, e4, e5, e6, e7, e12, e13, e14]; rfl)), by (first | (simp -implicitDefEqProofs (disch := omega) only [go_sem, e2, e4, e5, e6, e7, e12, e13, e14]; done) | (simp -implicitDefEqProofs (disch := omega) only [go_sem, e2, e4, e5, e6, e7, e12, e13, e14]; rfl)), by (first | (simp -implicitDefEqProofs (disch := omega) only [go_sem, e2, e4, e5, e6, e7, e12, e13, e14]; done) | (simp -implicitDefEqProofs (disch := omega) only [go_sem, e2, e4, e5, e6, e7, e12, e13, e14]; rfl)), by (first | (simp -implicitDefEqProofs (disch := omega) only [go_sem, e2, e4, e5, e6, e7, e12, e13, e14]; done) | (simp -implicitDefEqProofs (disch := omega) only [go_sem, e2, e4, e5, e6, e7, e12, e13, e14]; rfl)), by (first | (simp -implicitDefEqProofs (disch := omega) only [go_sem, e2, e4, e5, e6, e7, e12, e13, e14]; done) | (simp -implicitDefEqProofs (disch := omega) only [go_sem, e2, e4, e5, e6, e7, e12, e13, e14]; rfl)), by (first | (simp -implicitDefEqProofs (disch := omega) only [go_sem, e2, e4, e5, e6, e7, e12, e13, e14]; done) | (simp -implicitDefEqProofs (disch := omega) only [go_sem, e2, e4, e5, e6, e7, e12, e13, e14]; rfl)), rfl⟩
        clear e2 e4 e5 e6 e7 e12 e13 e14
        rintro f h ⟨j, x', b', r, a', c', hj, hjc, hrl, hx0', hx1', hgo2, e2, e4, e5, e6, e7, e12, e13, e14, e15, e16, rfl⟩ Q2 hQ2
        have hmj : ival (f 16) = (j : Int) := by rw [e16]; rfl
        by_cases hjl : j < cl
        · have j0 : (j : Int) < (cl : Int) := by omega
          rw [show cl - j = (cl - (j + 1)) + 1 by omega, Tb.rowGo] at hgo2
          obtain ⟨n1, n2, n3, n4, n5⟩ := Tb.num_in s 999 x' b' hx0' hx1'
          simp -implicitDefEqProofs (disch := omega) only [go_sem, e2, e4, e5, e6, e7, e12, e13, e14, e15, e16, j0, decide_true]
          refine RCall_frame [.cells g4 98 #[str s, .int .i64 x', .bool (!b')]] (Own 3 1 (.slice a' j c') j (iv r) :: T) [g4] (fun _ hs => hs) (by simp [Res.fp]) (fun w1 hs => rtb_num s (by omega) 999 x' b' (by omega) g4 w1 (hs.reanchors (by simp [Res.fp]))) ?_
          rintro _ _ ⟨rfl, rfl⟩
          generalize Tb.num s 999 x' b' = y at *
          obtain ⟨y, x2, b2⟩ := y
          simp only [] at n1 n2 n3 n4 n5 hgo2 ⊢
          simp -implicitDefEqProofs (disch := omega) only [go_sem, e2, e4, e5, e6, e7, e12, e13, e14, e15, e16]
          refine RRun_buildz [.int .i64 y] (iv [y]) tints_sl rfl rfl (by simp) (fun v hv => by
            simp only [List.mem_cons, List.not_mem_nil, or_false] at hv
            subst hv; rfl) rfl (by simp) fun gx hgx => ?_
          simp -implicitDefEqProofs (disch := omega) only [go_sem, e2, e4, e5, e6, e7, e12, e13, e14, e15, e16]
          refine RRun_append_cells (n := j) (xs := iv r) (m := 1) tints_sl (fun _ hs => Sat.swap2 hs.2.2.2) rfl (fun u hu => by
            simp only [iv, List.map_cons, List.map_nil, List.mem_singleton] at hu
            subst hu; rfl) (by omega) (by simp only [maxLen]; omega) fun a'' c'' hc'' => ?_
          simp -implicitDefEqProofs (disch := omega) only [go_sem, e2, e4, e5, e6, e7, e12, e13, e14, e15, e16]
          refine hQ2 _ _ fun w1 hs => ⟨_, Sat.swap2 hs, ⟨j + 1, x2, b2, r ++ [y], a'', c'', by omega, hc'', by rw [List.length_append, List.length_singleton, hrl], by omega, n5, hgo2, ?_, ?_, ?_, ?_, ?_, ?_, ?_, ?_, ?_, ?_, by rw [← iv_snoc]; rfl⟩, ?_⟩
          · (first | (simp -implicitDefEqProofs (disch := omega) only [go_sem, e2, e4, e5, e6, e7, e12, e13, e14, e15, e16]; done) | (simp -implicitDefEqProofs (disch := omega) only [go_sem, e2, e4, e5, e6, e7, e12, e13, e14, e15, e16]; rfl))
          · (first | (simp -implicitDefEqProofs (disch := omega) only [go_sem, e2, e4, e5, e6, e7, e12, e13, e14, e15, e16]; done) | (simp -implicitDefEqProofs (disch := omega) only [go_sem, e2, e4, e5, e6, e7, e12, e13, e14, e15, e16]; rfl))
          · (first | (simp -implicitDefEqProofs (disch := omega) only [go_sem, e2, e4, e5, e6, e7, e12, e13, e14, e15, e16]; done) | (simp -implicitDefEqProofs (disch := omega) only [go_sem, e2, e4, e5, e6, e7, e12, e13, e14, e15, e16]; rfl))
          · (first | (simp -implicitDefEqProofs (disch := omega) only [go_sem, e2, e4, e5, e6, e7, e12, e13, e14, e15, e16]; done) | (simp -implicitDefEqProofs (disch := omega) only [go_sem, e2, e4, e5, e6, e7, e12, e13, e14, e15, e16]; rfl))
          · (first | (simp -implicitDefEqProofs (disch := omega) only [go_sem, e2, e4, e5, e6, e7, e12, e13, e14, e15, e16]; done) | (simp -implicitDefEqProofs (disch := omega) only [go_sem, e2, e4, e5, e6, e7, e12, e13, e14, e15, e16]; rfl))
          · (first | (simp -implicitDefEqProofs (disch := omega) only [go_sem, e2, e4, e5, e6, e7, e12, e13, e14, e15, e16]; done) | (simp -implicitDefEqProofs (disch := omega) only [go_sem, e2, e4, e5, e6, e7, e12, e13, e14, e15, e16]; rfl))
          · (first | (simp -implicitDefEqProofs (disch := omega) only [go_sem, e2, e4, e5, e6, e7, e12, e13, e14, e15, e16]; done) | (simp -implicitDefEqProofs (disch := omega) only [go_sem, e2, e4, e5, e6, e7, e12, e13, e14, e15, e16]; rfl))
          · (first | (simp -implicitDefEqProofs (disch := omega) only [go_sem, e2, e4, e5, e6, e7, e12, e13, e14, e15, e16]; done) | (simp -implicitDefEqProofs (disch := omega) only [go_sem, e2, e4, e5, e6, e7, e12, e13, e14, e15, e16]; rfl))
          · (first | (simp -implicitDefEqProofs (disch := omega) only [go_sem, e2, e4, e5, e6, e7, e12, e13, e14, e15, e16]; done) | (simp -implicitDefEqProofs (disch := omega) only [go_sem, e2, e4, e5, e6, e7, e12, e13, e14, e15, e16]; rfl))
          · (first | (simp -implicitDefEqProofs (disch := omega) only [go_sem, e2, e4, e5, e6, e7, e12, e13, e14, e15, e16]; done) | (simp -implicitDefEqProofs (disch := omega) only [go_sem, e2, e4, e5, e6, e7, e12, e13, e14, e15, e16]; rfl))
          · simp -implicitDefEqProofs (disch := omega) only [go_sem, e2, e4, e5, e6, e7, e12, e13, e14, e15, e16, hmj]; omega
        have j0 : ¬ (j : Int) < (cl : Int) := by omega
        obtain rfl : j = cl := by omega
        rw [Nat.sub_self, Tb.rowGo] at hgo2
        rw [← hgo2] at hgo o1 o2 o3 o4
        simp only [] at hgo o1 o2 o3 o4
        subst hT
        simp -implicitDefEqProofs (disch := omega) only [go_sem, e2, e4, e5, e6, e7, e12, e13, e14, e15, e16, j0, decide_false]
        refine RRun_build1 tintss_sl rfl fun gy hgy => ?_
        simp -implicitDefEqProofs (disch := omega) only [go_sem, e2, e4, e5, e6, e7, e12, e13, e14, e15, e16]
        refine RRun_append_cells (n := n) (xs := (List.range n).map vs) (m := 1) (h' := [.cells g4 98 #[str s, .int .i64 x', .bool (!b')], Own 3 1 (.slice a' j c') j (iv r), RowsOwn 3 (fun k => k < n) vs (fun k => iv (acc.getD k [])), .cells gd 48 (List.toArray (Dfa.dC (intsV F .i64) (.slice none 0 0) (.slice none 0 0))), .cells g2 48 (List.toArray (Dfa.dC (intsV (fun _ => 0) .i64) (.slice none 0 0) (.slice none 0 0))), .anchor w []]) tintss_sl (fun _ hs => Sat.perm (List.perm_middle (l₁ := [_, _, _])) hs.2.2.2) (by simp) (fun u hu => by simp at hu; subst hu; rfl) (by omega) (by simp only [maxLen]; omega) fun a'' c'' hc'' => ?_
        simp -implicitDefEqProofs (disch := omega) only [go_sem, e2, e4, e5, e6, e7, e12, e13, e14, e15, e16]
        have hS : (fun k => k < n + 1 ∧ k ≠ n) = fun k => k < n := by funext k; exact propext (by omega)
        refine hQ' _ _ fun w1 hs => ⟨_, ?_, ⟨m, i + 1, x', b', acc ++ [r], a'', c'', n + 1, fun k => if k = n then .slice a' j c' else vs k, by rw [List.length_append, List.length_singleton, hn], by omega, hc'', by omega, o1, o2, hgo, ?_, ?_, ?_, ?_, ?_, ?_, ?_, ?_, rfl⟩, ?_⟩
        · have hs2 := Sat.perm (List.perm_middle (l₁ := [_, _, _])) (Sat.perm (List.perm_middle (l₁ := [_, _, _])) hs)
          have hjn := Sat.rows_join (S := fun k => k < n + 1) (vs := vs) (xs := fun k => iv (acc.getD k [])) n (.slice a' j c') j (iv r) (by rw [hS]; exact hs2)
          rw [rows_snoc hn r] at hjn
          rw [range_snoc]
          exact Sat.perm (List.perm_middle (l₁ := [_, _])) hjn
        · (first | (simp -implicitDefEqProofs (disch := omega) only [go_sem, e2, e4, e5, e6, e7, e12, e13, e14, e15, e16]; done) | (simp -implicitDefEqProofs (disch := omega) only [go_sem, e2, e4, e5, e6, e7, e12, e13, e14, e15, e16]; rfl))
        · (first | (simp -implicitDefEqProofs (disch := omega) only [go_sem, e2, e4, e5, e6, e7, e12, e13, e14, e15, e16]; done) | (simp -implicitDefEqProofs (disch := omega) only [go_sem, e2, e4, e5, e6, e7, e12, e13, e14, e15, e16]; rfl))
        · (first | (simp -implicitDefEqProofs (disch := omega) only [go_sem, e2, e4, e5, e6, e7, e12, e13, e14, e15, e16]; done) | (simp -implicitDefEqProofs (disch := omega) only [go_sem, e2, e4, e5, e6, e7, e12, e13, e14, e15, e16]; rfl))
        · (first | (simp -implicitDefEqProofs (disch := omega) only [go_sem, e2, e4, e5, e6, e7, e12, e13, e14, e15, e16]; done) | (simp -implicitDefEqProofs (disch := omega) only [go_sem, e2, e4, e5, e6, e7, e12, e13, e14, e15, e16]; rfl))
        · (first | (simp -implicitDefEqProofs (disch := omega) only [go_sem, e2, e4, e5, e6, e7, e12, e13, e14, e15, e16]; done) | (simp -implicitDefEqProofs (disch := omega) only [go_sem, e2, e4, e5, e6, e7, e12, e13, e14, e15, e16]; rfl))
        · (first | (simp -implicitDefEqProofs (disch := omega) only [go_sem, e2, e4, e5, e6, e7, e12, e13, e14, e15, e16]; done) | (simp -implicitDefEqProofs (disch := omega) only [go_sem, e2, e4, e5, e6, e7, e12, e13, e14, e15, e16]; rfl))
        · (first | (simp -implicitDefEqProofs (disch := omega) only [go_sem, e2, e4, e5, e6, e7, e12, e13, e14, e15, e16]; done) | (simp -implicitDefEqProofs (disch := omega) only [go_sem, e2, e4, e5, e6, e7, e12, e13, e14, e15, e16]; rfl))
        · (first | (simp -implicitDefEqProofs (disch := omega) only [go_sem, e2, e4, e5, e6, e7, e12, e13, e14, e15, e16]; done) | (simp -implicitDefEqProofs (disch := omega) only [go_sem, e2, e4, e5, e6, e7, e12, e13, e14, e15, e16]; rfl))
        · simp -implicitDefEqProofs (disch := omega) only [go_sem, e2, e4, e5, e6, e7, e12, e13, e14, e15, e16, hmi]; omega
  rintro f h ⟨ao, co, n, vs, hn, hnc, e2, e4, e5, e7, e12, e13, rfl⟩
  subst hn
  have hoff : br = false → Tb.readD s = none := fun h => by rw [hRD, h, if_neg (by simp)]
  simp -implicitDefEqProofs (disch := omega) only [go_sem, e2, e4, e5, e7, e12, e13]
  refine RLoop_join (fun f h => ∃ (w1 : World) (ra : Nat → Option Addr) (rc : Nat → Nat) (x : Int) (b : Bool) (nx : List (List Int)) (ru : List Int) (a1 : Option Addr) (c1 : Nat) (a2 : Option Addr) (c2 l : Nat) (kx : List Nat), Ext [] w w1 ∧ RdRows w1 ao rows ra rc ∧ (∀ j, j < rows.length → ∀ k, (ra j).map (·.block) = some k → (k ≠ g4 ∧ k ≠ gd ∧ k ≠ g2) ∧ w.heap.size ≤ k) ∧
    nx.length = l ∧ ru.length = l ∧ kx.length = l ∧ l ≤ 1000 ∧ ((b = true ∧ Tb.readD s = some (F, nx, ru)) ∨ (b = false ∧ Tb.readD s = none)) ∧ nx = kx.map (fun k => rows.getD k []) ∧ (∀ k ∈ kx, k < rows.length) ∧ (∀ n ∈ ru, -1 ≤ n ∧ n ≤ 31) ∧
    f 2 = .pointer (some ⟨g2, 0, none⟩) ∧ f 4 = .pointer (some ⟨g4, 0, none⟩) ∧ f 7 = .pointer (some ⟨gd, 0, none⟩) ∧
    h = [.cells g4 98 #[str s, .int .i64 x, .bool (!b)], Own 46 1 (.slice a1 l c1) l ((List.range l).map fun j => rwv rows ra rc (kx.getD j 0)), Own 3 1 (.slice a2 l c2) l (iv ru), .cells gd 48 (List.toArray (Dfa.dC (intsV F .i64) (.slice a1 l c1) (.slice a2 l c2))), .cells g2 48 (List.toArray (Dfa.dC (intsV (fun _ => 0) .i64) (.slice none 0 0) (.slice none 0 0))), .anchor w1 [g4, gd, g2]]) (fun J hJ => ?_) ?_
  · refine RLoop_from (fun f h => ∃ (w1 : World) (ra : Nat → Option Addr) (rc : Nat → Nat) (i : Nat) (x : Int) (b : Bool) (nx : List (List Int)) (ru : List Int) (a1 : Option Addr) (c1 : Nat) (a2 : Option Addr) (c2 l : Nat) (kx : List Nat), Ext [] w w1 ∧ RdRows w1 ao rows ra rc ∧ (∀ k, ao.map (·.block) = some k → k ≠ g4 ∧ k ≠ gd ∧ k ≠ g2) ∧ (∀ j, j < rows.length → ∀ k, (ra j).map (·.block) = some k → (k ≠ g4 ∧ k ≠ gd ∧ k ≠ g2) ∧ w.heap.size ≤ k) ∧
      i ≤ st ∧ nx.length = l ∧ ru.length = l ∧ kx.length = l ∧ l ≤ i ∧ l ≤ c1 ∧ l ≤ c2 ∧ 0 ≤ x ∧ x ≤ s.length ∧ ((b = true ∧ br = true ∧ Tb.statesGo s rows (st - i) x nx ru = Tb.statesGo s rows st xr [] []) ∨ (b = false ∧ Tb.readD s = none)) ∧ nx = kx.map (fun k => rows.getD k []) ∧ (∀ k ∈ kx, k < rows.length) ∧ (∀ n ∈ ru, -1 ≤ n ∧ n ≤ 31) ∧
      f 2 = .pointer (some ⟨g2, 0, none⟩) ∧ f 4 = .pointer (some ⟨g4, 0, none⟩) ∧ f 5 = .int .i64 (st : Int) ∧ f 7 = .pointer (some ⟨gd, 0, none⟩) ∧ f 12 = .int .i64 (nn : Int) ∧ f 13 = .slice ao rows.length co ∧ f 17 = .int .i64 (i : Int) ∧
      h = [.cells g4 98 #[str s, .int .i64 x, .bool (!b)], Own 46 1 (.slice a1 l c1) l ((List.range l).map fun j => rwv rows ra rc (kx.getD j 0)), Own 3 1 (.slice a2 l c2) l (iv ru), .cells gd 48 (List.toArray (Dfa.dC (intsV F .i64) (.slice a1 l c1) (.slice a2 l c2))), .cells g2 48 (List.toArray (Dfa.dC (intsV (fun _ => 0) .i64) (.slice none 0 0) (.slice none 0 0))), .anchor w1 [g4, gd, g2]]) (fun f _ => (st - ival (f 17)).toNat) ?_ ?_
    · intro w1 hs
      have ho : w1.ownsRow 0 46 1 (.slice ao rows.length co) rows.length ((List.range rows.length).map vs) := hs.mem (Own 46 1 (.slice ao rows.length co) rows.length ((List.range rows.length).map vs)) (by simp)
      have hr : RowsP 3 (fun k => k < rows.length) vs (fun k => iv (rows.getD k [])) w1 := hs.mem (RowsOwn 3 (fun k => k < rows.length) vs (fun k => iv (rows.getD k []))) (by simp)
      have hs0 := hs
      obtain ⟨_, _, q1, _, _, q2, _, _, q3, _⟩ := hs0
      have hs' : Sat w1 ([.cells g4 98 #[str s, .int .i64 xr, .bool (!br)], .cells gd 48 (List.toArray (Dfa.dC (intsV F .i64) (.slice none 0 0) (.slice none 0 0))), .cells g2 48 (List.toArray (Dfa.dC (intsV (fun _ => 0) .i64) (.slice none 0 0) (.slice none 0 0)))] ++ [.anchor w []]) := Sat.sub (.cons_cons _ (.cons _ (.cons _ (List.Sublist.refl _)))) hs
      have hs3 := hs'.reanchors (S := [g4, gd, g2]) (by simp [Res.fp])
      refine ⟨_, ?_, w1, raOf vs, rcOf vs, 0, xr, br, [], [], none, 0, none, 0, 0, [], hs'.anchor (by simp), rdRows_of rfl ho hr, fun k hk => ?_, fun j hj k hk => ⟨?_, ?_⟩, by omega, rfl, rfl, rfl, by omega, by omega, by omega, r1, r2, ?_, rfl, by simp, by simp, by (first | (simp -implicitDefEqProofs (disch := omega) only [go_sem, e2, e4, e5, e7, e12, e13]; done) | (simp -implicitDefEqProofs (disch := omega) only [go_sem, e2, e4, e5, e7, e12, e13]; rfl)), by (first | (simp -implicitDefEqProofs (disch := omega) only [go_sem, e2, e4, e5, e7, e12, e13]; done) | (simp -implicitDefEqProofs (disch := omega) only [go_sem, e2, e4, e5, e7, e12, e13]; rfl)), by (first | (simp -implicitDefEqProofs (disch := omega) only [go_sem, e2, e4, e5, e7, e12, e13]; done) | (simp -implicitDefEqProofs (disch := omega) only [go_sem, e2, e4, e5, e7, e12, e13]; rfl)), by (first | (simp -implicitDefEqProofs (disch := omega) only [go_sem, e2, e4, e5, e7, e12, e13]; done) | (simp -implicitDefEqProofs (disch := omega) only [go_sem, e2, e4, e5, e7, e12, e13]; rfl)), by (first | (simp -implicitDefEqProofs (disch := omega) only [go_sem, e2, e4, e5, e7, e12, e13]; done) | (simp -implicitDefEqProofs (disch := omega) only [go_sem, e2, e4, e5, e7, e12, e13]; rfl)), by (first | (simp -implicitDefEqProofs (disch := omega) only [go_sem, e2, e4, e5, e7, e12, e13]; done) | (simp -implicitDefEqProofs (disch := omega) only [go_sem, e2, e4, e5, e7, e12, e13]; rfl)), by (first | (simp -implicitDefEqProofs (disch := omega) only [go_sem, e2, e4, e5, e7, e12, e13]; done) | (simp -implicitDefEqProofs (disch := omega) only [go_sem, e2, e4, e5, e7, e12, e13]; rfl)), rfl⟩
      · exact Sat.swap2 (Sat.perm (List.perm_middle (l₁ := [_, _])) ((hs3.own_nil 46 1).swap2.own_nil 3 1).swap2)
      · have h6 : (Value.slice ao rows.length co).ownBlock = some k := own_block hk
        refine ⟨fun e => q1 (Own 46 1 (.slice ao rows.length co) rows.length ((List.range rows.length).map vs)) (by simp) k e h6, fun e => q3 (.cells gd 48 (List.toArray (Dfa.dC (intsV F .i64) (.slice none 0 0) (.slice none 0 0)))) (by simp) k h6 e, fun e => q3 (.cells g2 48 (List.toArray (Dfa.dC (intsV (fun _ => 0) .i64) (.slice none 0 0) (.slice none 0 0)))) (by simp) k h6 e⟩
      · refine ⟨fun e => ?_, fun e => ?_, fun e => ?_⟩
        · exact rows_apart (r := .cells g4 98 #[str s, .int .i64 xr, .bool (!br)]) hr (fun k h1 h2 => q1 (RowsOwn 3 (fun k => k < rows.length) vs (fun k => iv (rows.getD k []))) (by simp) k h2 h1) j hj k hk e
        · exact rows_apart (r := .cells gd 48 (List.toArray (Dfa.dC (intsV F .i64) (.slice none 0 0) (.slice none 0 0)))) hr (fun k h1 h2 => q2 _ (by simp) k h1 h2) j hj k hk e
        · exact rows_apart (r := .cells g2 48 (List.toArray (Dfa.dC (intsV (fun _ => 0) .i64) (.slice none 0 0) (.slice none 0 0)))) hr (fun k h1 h2 => q2 _ (by simp) k h1 h2) j hj k hk e
      · exact new_block (S := []) (rows_apart (r := .anchor w []) hr (fun k h1 => q2 (.anchor w []) (by simp) k h1) j hj k hk) (Ext.refl [] w) (by simp)
      · cases br with
        | true => exact .inl ⟨rfl, rfl, rfl⟩
        | false => exact .inr ⟨rfl, hoff rfl⟩
    clear e2 e4 e5 e7 e12 e13
    rintro f h ⟨w1, ra, rc, i, x, b, nx, ru, a1, c1, a2, c2, l, kx, hxw, hrr, nao, nra, hi, hnl, hul, hkl, hli, hc1, hc2, hx0, hx1, hat, hnx, hkx, hru, e2, e4, e5, e7, e12, e13, e17, rfl⟩ Q' hQ'
    have hmi : ival (f 17) = (i : Int) := by rw [e17]; rfl
    by_cases hil : i < st
    rotate_left
    · have g0 : decide ((i : Int) < (st : Int)) = false := decide_eq_false (by omega)
      obtain rfl : i = st := by omega
      simp -implicitDefEqProofs (disch := omega) only [go_sem, e2, e4, e5, e7, e12, e13, e17, g0]
      refine hJ _ _ ⟨w1, ra, rc, x, b, nx, ru, a1, c1, a2, c2, l, kx, hxw, hrr, nra, hnl, hul, hkl, by omega, ?_, hnx, hkx, hru, by (first | (simp -implicitDefEqProofs (disch := omega) only [go_sem, e2, e4, e5, e7, e12, e13, e17]; done) | (simp -implicitDefEqProofs (disch := omega) only [go_sem, e2, e4, e5, e7, e12, e13, e17]; rfl)), by (first | (simp -implicitDefEqProofs (disch := omega) only [go_sem, e2, e4, e5, e7, e12, e13, e17]; done) | (simp -implicitDefEqProofs (disch := omega) only [go_sem, e2, e4, e5, e7, e12, e13, e17]; rfl)), by (first | (simp -implicitDefEqProofs (disch := omega) only [go_sem, e2, e4, e5, e7, e12, e13, e17]; done) | (simp -implicitDefEqProofs (disch := omega) only [go_sem, e2, e4, e5, e7, e12, e13, e17]; rfl)), rfl⟩
      rcases hat with ⟨h1, h2, h3⟩ | h
      · refine .inl ⟨h1, ?_⟩
        rw [Nat.sub_self, Tb.statesGo] at h3
        rw [hRD, if_pos h2, ← h3]; rfl
      · exact .inr h
    have g0 : decide ((i : Int) < (st : Int)) = true := decide_eq_true (by omega)
    cases b with
    | false =>
      have hnone : Tb.readD s = none := by
        rcases hat with ⟨h, _⟩ | h
        · cases h
        · exact h.2
      simp -implicitDefEqProofs (disch := omega) only [go_sem, e2, e4, e5, e7, e12, e13, e17, g0, Bool.not_false, Bool.not_true]
      exact hJ _ _ ⟨w1, ra, rc, x, false, nx, ru, a1, c1, a2, c2, l, kx, hxw, hrr, nra, hnl, hul, hkl, by omega, .inr ⟨rfl, hnone⟩, hnx, hkx, hru, by (first | (simp -implicitDefEqProofs (disch := omega) only [go_sem, e2, e4, e5, e7, e12, e13, e17]; done) | (simp -implicitDefEqProofs (disch := omega) only [go_sem, e2, e4, e5, e7, e12, e13, e17]; rfl)), by (first | (simp -implicitDefEqProofs (disch := omega) only [go_sem, e2, e4, e5, e7, e12, e13, e17]; done) | (simp -implicitDefEqProofs (disch := omega) only [go_sem, e2, e4, e5, e7, e12, e13, e17]; rfl)), by (first | (simp -implicitDefEqProofs (disch := omega) only [go_sem, e2, e4, e5, e7, e12, e13, e17]; done) | (simp -implicitDefEqProofs (disch := omega) only [go_sem, e2, e4, e5, e7, e12, e13, e17]; rfl)), rfl⟩
    | true =>
    obtain ⟨rfl, hat2⟩ : br = true ∧ Tb.statesGo s rows (st - i) x nx ru = Tb.statesGo s rows st xr [] [] := by
      rcases hat with ⟨_, h1, h2⟩ | ⟨h, _⟩
      · exact ⟨h1, h2⟩
      · cases h
    have hrn : (rows.length : Int) = (nn : Int) := r4 rfl
    have hal := Tb.num_in s ((nn : Int) - 1) x true hx0 hx1
    simp -implicitDefEqProofs (disch := omega) only [go_sem, e2, e4, e5, e7, e12, e13, e17, g0, Bool.not_false, Bool.not_true]
    refine RCall_frame [.cells g4 98 #[str s, .int .i64 x, .bool (!true)]] [Own 46 1 (.slice a1 l c1) l ((List.range l).map fun j => rwv rows ra rc (kx.getD j 0)), Own 3 1 (.slice a2 l c2) l (iv ru), .cells gd 48 (List.toArray (Dfa.dC (intsV F .i64) (.slice a1 l c1) (.slice a2 l c2))), .cells g2 48 (List.toArray (Dfa.dC (intsV (fun _ => 0) .i64) (.slice none 0 0) (.slice none 0 0))), .anchor w1 [g4, gd, g2]] [g4] (fun _ hs => hs) (by simp [Res.fp]) (fun w2 hs => rtb_num s (by omega) ((nn : Int) - 1) x true (by omega) g4 w2 (hs.reanchors (by simp [Res.fp]))) ?_
    rintro _ _ ⟨rfl, rfl⟩
    obtain ⟨y1, hy1⟩ : ∃ y, y = Tb.num s ((nn : Int) - 1) x true := ⟨_, rfl⟩
    rw [← hy1] at hal ⊢
    have hal2 := Tb.num_in s 32 y1.2.1 y1.2.2 (by omega) hal.2.2.2.2
    simp -implicitDefEqProofs (disch := omega) only [go_sem, e2, e4, e5, e7, e12, e13, e17]
    refine RCall_frame [.cells g4 98 #[str s, .int .i64 y1.2.1, .bool (!y1.2.2)]] [Own 46 1 (.slice a1 l c1) l ((List.range l).map fun j => rwv rows ra rc (kx.getD j 0)), Own 3 1 (.slice a2 l c2) l (iv ru), .cells gd 48 (List.toArray (Dfa.dC (intsV F .i64) (.slice a1 l c1) (.slice a2 l c2))), .cells g2 48 (List.toArray (Dfa.dC (intsV (fun _ => 0) .i64) (.slice none 0 0) (.slice none 0 0))), .anchor w1 [g4, gd, g2]] [g4] (fun _ hs => hs) (by simp [Res.fp]) (fun w2 hs => rtb_num s (by omega) 32 y1.2.1 y1.2.2 (by omega) g4 w2 (hs.reanchors (by simp [Res.fp]))) ?_
    rintro _ _ ⟨rfl, rfl⟩
    obtain ⟨y2, hy2⟩ : ∃ y, y = Tb.num s 32 y1.2.1 y1.2.2 := ⟨_, rfl⟩
    rw [← hy2] at hal2 ⊢
    obtain ⟨m, hm⟩ : ∃ m, st - i = m + 1 := ⟨st - i - 1, by omega⟩
    have hkN : Tb.kNum s rows.length x = y1 := by unfold Tb.kNum; rw [hrn]; exact hy1.symm
    have hrN : Tb.rNum s rows.length x = y2 := by unfold Tb.rNum; rw [hkN]; exact hy2.symm
    rw [hm, Tb.statesGo, hrN, hkN] at hat2
    cases hb2 : y2.2.2 with
    | false =>
      have hnone : Tb.readD s = none := by
        rw [hRD, if_pos rfl, ← hat2, if_neg (by rw [hb2]; simp)]; rfl
      simp -implicitDefEqProofs (disch := omega) only [go_sem, e2, e4, e5, e7, e12, e13, e17, hb2, Bool.not_false, hsetN_ne, n24, n4d, n2d, Ne.symm n24, Ne.symm n4d, Ne.symm n2d]
      refine hQ' _ _ fun w2 hs => ⟨_, hs, ⟨w1, ra, rc, i + 1, y2.2.1, false, nx, ru, a1, c1, a2, c2, l, kx, hxw, hrr, nao, nra, by omega, hnl, hul, hkl, by omega, hc1, hc2, by omega, by omega, .inr ⟨rfl, hnone⟩, hnx, hkx, hru, ?_, ?_, ?_, ?_, ?_, ?_, ?_, rfl⟩, ?_⟩
      · (first | (simp -implicitDefEqProofs (disch := omega) only [go_sem, e2, e4, e5, e7, e12, e13, e17]; done) | (simp -implicitDefEqProofs (disch := omega) only [go_sem, e2, e4, e5, e7, e12, e13, e17]; rfl))
      · (first | (simp -implicitDefEqProofs (disch := omega) only [go_sem, e2, e4, e5, e7, e12, e13, e17]; done) | (simp -implicitDefEqProofs (disch := omega) only [go_sem, e2, e4, e5, e7, e12, e13, e17]; rfl))
      · (first | (simp -implicitDefEqProofs (disch := omega) only [go_sem, e2, e4, e5, e7, e12, e13, e17]; done) | (simp -implicitDefEqProofs (disch := omega) only [go_sem, e2, e4, e5, e7, e12, e13, e17]; rfl))
      · (first | (simp -implicitDefEqProofs (disch := omega) only [go_sem, e2, e4, e5, e7, e12, e13, e17]; done) | (simp -implicitDefEqProofs (disch := omega) only [go_sem, e2, e4, e5, e7, e12, e13, e17]; rfl))
      · (first | (simp -implicitDefEqProofs (disch := omega) only [go_sem, e2, e4, e5, e7, e12, e13, e17]; done) | (simp -implicitDefEqProofs (disch := omega) only [go_sem, e2, e4, e5, e7, e12, e13, e17]; rfl))
      · (first | (simp -implicitDefEqProofs (disch := omega) only [go_sem, e2, e4, e5, e7, e12, e13, e17]; done) | (simp -implicitDefEqProofs (disch := omega) only [go_sem, e2, e4, e5, e7, e12, e13, e17]; rfl))
      · (first | (simp -implicitDefEqProofs (disch := omega) only [go_sem, e2, e4, e5, e7, e12, e13, e17]; done) | (simp -implicitDefEqProofs (disch := omega) only [go_sem, e2, e4, e5, e7, e12, e13, e17]; rfl))
      · simp -implicitDefEqProofs (disch := omega) only [go_sem, e2, e4, e5, e7, e12, e13, e17, hmi]; omega
    | true =>
      have ht2 := Tb.num_true (s := s) (most := 32) (a := y1.2.1) (wh := y1.2.2) (by rw [← hy2]; exact hb2)
      rw [← hy2] at ht2
      have ht1 := Tb.num_true (s := s) (most := (nn : Int) - 1) (a := x) (wh := true) (by rw [← hy1]; exact ht2.1)
      rw [← hy1] at ht1
      obtain ⟨k, hk⟩ : ∃ k : Nat, y1.1 = (k : Int) := ⟨y1.1.toNat, by omega⟩
      have hk1 := ht1.2
      rw [hk] at hk1
      rw [hk, Int.toNat_natCast, if_pos hb2, show m = st - (i + 1) by omega] at hat2
      have hkr : k < rows.length := by omega
      have hkr' : (k : Int) < (rows.length : Int) := by omega
      obtain ⟨bo, oo, hao, hbo, hco⟩ := hrr.at_ k hkr
      obtain ⟨nb4, nbd, nb2⟩ := nao bo (by rw [hao]; rfl)
      rw [hao] at e13
      simp -implicitDefEqProofs (disch := omega) only [go_sem, e2, e4, e5, e7, e12, e13, e17, hb2, hk, Bool.not_true, hsetN_ne, n24, n4d, n2d, Ne.symm n24, Ne.symm n4d, Ne.symm n2d]
      refine RDraw_seg (by kernel_rfl) (by kernel_rfl) 10 rfl ?_
      refine RS_cutR [0, 2, 3, 4, 5, 8] [1, 6, 7, 9] (by decide +kernel) ?_
      refine RS_det (by kernel_rfl) ?_
      repeat (first | refine ToO_step (fun Q hq => by (simp -implicitDefEqProofs (disch := omega) only [go_sem, e2, e4, e5, e7, e12, e13, e17, hkr', hbo, hco, nb4, nbd, nb2, hsetN_ne, n24, n4d, n2d, Ne.symm n24, Ne.symm n4d, Ne.symm n2d]; exact hq)) ?_ | refine ToO_guard (by (simp -implicitDefEqProofs only [go_sem, e2, e4, e5, e7, e12, e13, e17, hkr', hbo, hco, nb4, nbd, nb2, hsetN_ne, n24, n4d, n2d, Ne.symm n24, Ne.symm n4d, Ne.symm n2d]; first | done | fail)) (fun Q hq => by (simp -implicitDefEqProofs (disch := omega) only [go_sem, e2, e4, e5, e7, e12, e13, e17, hkr', hbo, hco, nb4, nbd, nb2, hsetN_ne, n24, n4d, n2d, Ne.symm n24, Ne.symm n4d, Ne.symm n2d]; exact hq)) ?_ | refine ToO_skip (.inl (by (simp -implicitDefEqProofs only [go_sem, e2, e4, e5, e7, e12, e13, e17, hkr', hbo, hco, nb4, nbd, nb2, hsetN_ne, n24, n4d, n2d, Ne.symm n24, Ne.symm n4d, Ne.symm n2d]; first | done | fail))) ?_ | refine ToO_skip (.inr (by (simp -implicitDefEqProofs only [go_sem, e2, e4, e5, e7, e12, e13, e17, hkr', hbo, hco, nb4, nbd, nb2, hsetN_ne, n24, n4d, n2d, Ne.symm n24, Ne.symm n4d, Ne.symm n2d]; first | done | fail))) ?_)
      refine ToO_nil ?_
      obtain ⟨H, hH⟩ : ∃ H, H = [Res.cells g4 98 #[str s, .int .i64 y2.2.1, .bool false], Own 46 1 (.slice a1 l c1) l ((List.range l).map fun j => rwv rows ra rc (kx.getD j 0)), Own 3 1 (.slice a2 l c2) l (iv ru), .cells gd 48 (List.toArray (Dfa.dC (intsV F .i64) (.slice a1 l c1) (.slice a2 l c2))), .cells g2 48 (List.toArray (Dfa.dC (intsV (fun _ => 0) .i64) (.slice none 0 0) (.slice none 0 0))), .anchor w1 [g4, gd, g2]] := ⟨_, rfl⟩
      rw [← hH]
      refine RS_via [7, 9] (fun f h => ∃ gy, f 2 = .pointer (some ⟨g2, 0, none⟩) ∧ f 4 = .pointer (some ⟨g4, 0, none⟩) ∧ f 5 = .int .i64 (st : Int) ∧ f 7 = .pointer (some ⟨gd, 0, none⟩) ∧ f 12 = .int .i64 (nn : Int) ∧ f 13 = .slice (some ⟨bo, oo, none⟩) rows.length co ∧ f 17 = .int .i64 (i : Int) ∧ f 19 = .int .i64 (y2.1 - 1) ∧ f 113 = .slice a1 l c1 ∧ f 118 = .slice (some ⟨gy, 0, none⟩) 1 1 ∧ f 120 = .pointer (some ⟨gd, 256, none⟩) ∧
        h = .cells gy 46 #[rwv rows ra rc k] :: H) (fun K' hI => ?_) ?_
      · refine RS_cut [1, 6] [7, 9] (by decide +kernel) ?_
        refine RS_first [1, 6] (by kernel_rfl) ⟨?_, ?_, trivial⟩
        · rw [hH]
          simp -implicitDefEqProofs (disch := omega) only [go_sem, e2, e4, e5, e7, e12, e13, e17, hsetN_ne, n24, n4d, n2d, Ne.symm n24, Ne.symm n4d, Ne.symm n2d]
          refine RS_text (L := [6]) (by kernel_rfl) ?_
          rw [← hH]
          simp -implicitDefEqProofs (disch := omega) only [go_sem, e2, e4, e5, e7, e12, e13, e17]
          refine RRun_build1 tintss_sl rfl fun gy hgy => ?_
          simp -implicitDefEqProofs (disch := omega) only [go_sem, e2, e4, e5, e7, e12, e13, e17]
          exact hI _ _ ⟨gy, by (first | (simp -implicitDefEqProofs (disch := omega) only [go_sem, e2, e4, e5, e7, e12, e13, e17]; done) | (simp -implicitDefEqProofs (disch := omega) only [go_sem, e2, e4, e5, e7, e12, e13, e17]; rfl)), by (first | (simp -implicitDefEqProofs (disch := omega) only [go_sem, e2, e4, e5, e7, e12, e13, e17]; done) | (simp -implicitDefEqProofs (disch := omega) only [go_sem, e2, e4, e5, e7, e12, e13, e17]; rfl)), by (first | (simp -implicitDefEqProofs (disch := omega) only [go_sem, e2, e4, e5, e7, e12, e13, e17]; done) | (simp -implicitDefEqProofs (disch := omega) only [go_sem, e2, e4, e5, e7, e12, e13, e17]; rfl)), by (first | (simp -implicitDefEqProofs (disch := omega) only [go_sem, e2, e4, e5, e7, e12, e13, e17]; done) | (simp -implicitDefEqProofs (disch := omega) only [go_sem, e2, e4, e5, e7, e12, e13, e17]; rfl)), by (first | (simp -implicitDefEqProofs (disch := omega) only [go_sem, e2, e4, e5, e7, e12, e13, e17]; done) | (simp -implicitDefEqProofs (disch := omega) only [go_sem, e2, e4, e5, e7, e12, e13, e17]; rfl)), by (first | (simp -implicitDefEqProofs (disch := omega) only [go_sem, e2, e4, e5, e7, e12, e13, e17]; done) | (simp -implicitDefEqProofs (disch := omega) only [go_sem, e2, e4, e5, e7, e12, e13, e17]; rfl)), by (first | (simp -implicitDefEqProofs (disch := omega) only [go_sem, e2, e4, e5, e7, e12, e13, e17]; done) | (simp -implicitDefEqProofs (disch := omega) only [go_sem, e2, e4, e5, e7, e12, e13, e17]; rfl)), by (first | (simp -implicitDefEqProofs (disch := omega) only [go_sem, e2, e4, e5, e7, e12, e13, e17]; done) | (simp -implicitDefEqProofs (disch := omega) only [go_sem, e2, e4, e5, e7, e12, e13, e17]; rfl)), by (first | (simp -implicitDefEqProofs (disch := omega) only [go_sem, e2, e4, e5, e7, e12, e13, e17]; done) | (simp -implicitDefEqProofs (disch := omega) only [go_sem, e2, e4, e5, e7, e12, e13, e17]; rfl)), by (first | (simp -implicitDefEqProofs (disch := omega) only [go_sem, e2, e4, e5, e7, e12, e13, e17]; done) | (simp -implicitDefEqProofs (disch := omega) only [go_sem, e2, e4, e5, e7, e12, e13, e17]; rfl)), by (first | (simp -implicitDefEqProofs (disch := omega) only [go_sem, e2, e4, e5, e7, e12, e13, e17]; done) | (simp -implicitDefEqProofs (disch := omega) only [go_sem, e2, e4, e5, e7, e12, e13, e17]; rfl)), rfl⟩
        · simp -implicitDefEqProofs (disch := omega) only [go_sem, e2, e4, e5, e7, e12, e13, e17]
          refine RRun_build1 tintss_sl rfl fun gy hgy => ?_
          have ngy : gd ≠ gy := by
            rw [hH] at hgy
            exact Nat.ne_of_lt hgy.2.2.2.1
          simp -implicitDefEqProofs (disch := omega) only [go_sem, e2, e4, e5, e7, e12, e13, e17]
          refine RS_text (L := [1]) (by kernel_rfl) ?_
          rw [hH]
          simp -implicitDefEqProofs (disch := omega) only [go_sem, e2, e4, e5, e7, e12, e13, e17, hsetN_ne, n24, n4d, n2d, Ne.symm n24, Ne.symm n4d, Ne.symm n2d, ngy]
          rw [← hH]
          exact hI _ _ ⟨gy, by (first | (simp -implicitDefEqProofs (disch := omega) only [go_sem, e2, e4, e5, e7, e12, e13, e17]; done) | (simp -implicitDefEqProofs (disch := omega) only [go_sem, e2, e4, e5, e7, e12, e13, e17]; rfl)), by (first | (simp -implicitDefEqProofs (disch := omega) only [go_sem, e2, e4, e5, e7, e12, e13, e17]; done) | (simp -implicitDefEqProofs (disch := omega) only [go_sem, e2, e4, e5, e7, e12, e13, e17]; rfl)), by (first | (simp -implicitDefEqProofs (disch := omega) only [go_sem, e2, e4, e5, e7, e12, e13, e17]; done) | (simp -implicitDefEqProofs (disch := omega) only [go_sem, e2, e4, e5, e7, e12, e13, e17]; rfl)), by (first | (simp -implicitDefEqProofs (disch := omega) only [go_sem, e2, e4, e5, e7, e12, e13, e17]; done) | (simp -implicitDefEqProofs (disch := omega) only [go_sem, e2, e4, e5, e7, e12, e13, e17]; rfl)), by (first | (simp -implicitDefEqProofs (disch := omega) only [go_sem, e2, e4, e5, e7, e12, e13, e17]; done) | (simp -implicitDefEqProofs (disch := omega) only [go_sem, e2, e4, e5, e7, e12, e13, e17]; rfl)), by (first | (simp -implicitDefEqProofs (disch := omega) only [go_sem, e2, e4, e5, e7, e12, e13, e17]; done) | (simp -implicitDefEqProofs (disch := omega) only [go_sem, e2, e4, e5, e7, e12, e13, e17]; rfl)), by (first | (simp -implicitDefEqProofs (disch := omega) only [go_sem, e2, e4, e5, e7, e12, e13, e17]; done) | (simp -implicitDefEqProofs (disch := omega) only [go_sem, e2, e4, e5, e7, e12, e13, e17]; rfl)), by (first | (simp -implicitDefEqProofs (disch := omega) only [go_sem, e2, e4, e5, e7, e12, e13, e17]; done) | (simp -implicitDefEqProofs (disch := omega) only [go_sem, e2, e4, e5, e7, e12, e13, e17]; rfl)), by (first | (simp -implicitDefEqProofs (disch := omega) only [go_sem, e2, e4, e5, e7, e12, e13, e17]; done) | (simp -implicitDefEqProofs (disch := omega) only [go_sem, e2, e4, e5, e7, e12, e13, e17]; rfl)), by (first | (simp -implicitDefEqProofs (disch := omega) only [go_sem, e2, e4, e5, e7, e12, e13, e17]; done) | (simp -implicitDefEqProofs (disch := omega) only [go_sem, e2, e4, e5, e7, e12, e13, e17]; rfl)), by (first | (simp -implicitDefEqProofs (disch := omega) only [go_sem, e2, e4, e5, e7, e12, e13, e17]; done) | (simp -implicitDefEqProofs (disch := omega) only [go_sem, e2, e4, e5, e7, e12, e13, e17]; rfl)), rfl⟩
      clear e2 e4 e5 e7 e12 e13 e17
      rintro f h ⟨gy, e2, e4, e5, e7, e12, e13, e17, e19, e113, e118, e120, rfl⟩
      refine RS_text (by kernel_rfl) ?_
      subst hH
      simp -implicitDefEqProofs (disch := omega) only [go_sem, e2, e4, e5, e7, e12, e13, e17, e19, e113, e118, e120]
      refine RRun_append_cells (n := l) (xs := (List.range l).map fun j => rwv rows ra rc (kx.getD j 0)) (m := 1) (h' := [.cells g4 98 #[str s, .int .i64 y2.2.1, .bool false], Own 3 1 (.slice a2 l c2) l (iv ru), .cells gd 48 (List.toArray (Dfa.dC (intsV F .i64) (.slice a1 l c1) (.slice a2 l c2))), .cells g2 48 (List.toArray (Dfa.dC (intsV (fun _ => 0) .i64) (.slice none 0 0) (.slice none 0 0))), .anchor w1 [g4, gd, g2]]) tintss_sl (fun _ hs => Sat.swap2 hs.2.2.2) (by simp) (fun u hu => by simp at hu; subst hu; rfl) (by omega) (by simp only [maxLen]; omega) fun a1' c1' hc1' => ?_
      simp -implicitDefEqProofs (disch := omega) only [go_sem, e2, e4, e5, e7, e12, e13, e17, e19, e113, e118, e120, hsetN_ne, n24, n4d, n2d, Ne.symm n24, Ne.symm n4d, Ne.symm n2d]
      refine RRun_buildz [.int .i64 (y2.1 - 1)] (iv [y2.1 - 1]) tints_sl rfl rfl (by simp) (fun v hv => by
        simp only [List.mem_cons, List.not_mem_nil, or_false] at hv
        subst hv; rfl) rfl (by simp) fun gz hgz => ?_
      simp -implicitDefEqProofs (disch := omega) only [go_sem, e2, e4, e5, e7, e12, e13, e17, e19, e113, e118, e120, hsetN_ne, n24, n4d, n2d, Ne.symm n24, Ne.symm n4d, Ne.symm n2d]
      refine RRun_append_cells (n := l) (xs := iv ru) (m := 1) (h' := [Own 46 1 (.slice a1' (l + 1) c1') (l + 1) (((List.range l).map fun j => rwv rows ra rc (kx.getD j 0)) ++ [rwv rows ra rc k]), .cells g4 98 #[str s, .int .i64 y2.2.1, .bool false], .cells gd 48 (List.toArray (Dfa.dC (intsV F .i64) (.slice a1' (l + 1) c1') (.slice a2 l c2))), .cells g2 48 (List.toArray (Dfa.dC (intsV (fun _ => 0) .i64) (.slice none 0 0) (.slice none 0 0))), .anchor w1 [g4, gd, g2]]) tints_sl (fun _ hs => Sat.perm (List.perm_middle (l₁ := [_, _])) hs.2.2.2) rfl (fun u hu => by
        simp only [iv, List.map_cons, List.map_nil, List.mem_singleton] at hu
        subst hu; rfl) (by omega) (by simp only [maxLen]; omega) fun a2' c2' hc2' => ?_
      simp -implicitDefEqProofs (disch := omega) only [go_sem, e2, e4, e5, e7, e12, e13, e17, e19, e113, e118, e120, hsetN_ne, n24, n4d, n2d, Ne.symm n24, Ne.symm n4d, Ne.symm n2d]
      have hrng : ((List.range (l + 1)).map fun j => rwv rows ra rc ((kx ++ [k]).getD j 0)) = ((List.range l).map fun j => rwv rows ra rc (kx.getD j 0)) ++ [rwv rows ra rc k] := by
        rw [List.range_succ, List.map_append, List.map_singleton]
        congr 1
        · refine List.map_congr_left fun j hj => ?_
          have := List.mem_range.1 hj
          rw [List.getD_eq_getElem?_getD, List.getD_eq_getElem?_getD, List.getElem?_append_left (by omega)]
        · rw [List.getD_eq_getElem?_getD, List.getElem?_append_right (by omega), hkl, Nat.sub_self]; rfl
      refine hQ' _ _ fun w2 hs => ⟨_, ?_, ⟨w1, ra, rc, i + 1, y2.2.1, true, nx ++ [rows.getD k []], ru ++ [y2.1 - 1], a1', c1', a2', c2', l + 1, kx ++ [k], hxw, hrr, nao, nra, by omega, by rw [List.length_append, List.length_singleton, hnl], by rw [List.length_append, List.length_singleton, hul], by rw [List.length_append, List.length_singleton, hkl], by omega, hc1', hc2', by omega, by omega, .inl ⟨rfl, rfl, hat2⟩, by rw [List.map_append, List.map_singleton, ← hnx], ?_, ?_, ?_, ?_, ?_, ?_, ?_, ?_, ?_, rfl⟩, ?_⟩
      · rw [hrng, ← iv_snoc]
        exact Sat.perm (List.perm_middle (l₁ := [_, _])) (Sat.perm (List.perm_middle (l₁ := [_])) hs)
      · intro q hq
        rcases List.mem_append.1 hq with hq | hq
        · exact hkx q hq
        · obtain rfl := List.mem_singleton.1 hq
          exact hkr
      · intro q hq
        rcases List.mem_append.1 hq with hq | hq
        · exact hru q hq
        · obtain rfl := List.mem_singleton.1 hq
          have := ht2.2
          omega
      · (first | (simp -implicitDefEqProofs (disch := omega) only [go_sem, e2, e4, e5, e7, e12, e13, e17, e19, e113, e118, e120]; done) | (simp -implicitDefEqProofs (disch := omega) only [go_sem, e2, e4, e5, e7, e12, e13, e17, e19, e113, e118, e120]; rfl))
      · (first | (simp -implicitDefEqProofs (disch := omega) only [go_sem, e2, e4, e5, e7, e12, e13, e17, e19, e113, e118, e120]; done) | (simp -implicitDefEqProofs (disch := omega) only [go_sem, e2, e4, e5, e7, e12, e13, e17, e19, e113, e118, e120]; rfl))
      · (first | (simp -implicitDefEqProofs (disch := omega) only [go_sem, e2, e4, e5, e7, e12, e13, e17, e19, e113, e118, e120]; done) | (simp -implicitDefEqProofs (disch := omega) only [go_sem, e2, e4, e5, e7, e12, e13, e17, e19, e113, e118, e120]; rfl))
      · (first | (simp -implicitDefEqProofs (disch := omega) only [go_sem, e2, e4, e5, e7, e12, e13, e17, e19, e113, e118, e120]; done) | (simp -implicitDefEqProofs (disch := omega) only [go_sem, e2, e4, e5, e7, e12, e13, e17, e19, e113, e118, e120]; rfl))
      · (first | (simp -implicitDefEqProofs (disch := omega) only [go_sem, e2, e4, e5, e7, e12, e13, e17, e19, e113, e118, e120]; done) | (simp -implicitDefEqProofs (disch := omega) only [go_sem, e2, e4, e5, e7, e12, e13, e17, e19, e113, e118, e120]; rfl))
      · rw [hao]; (first | (simp -implicitDefEqProofs (disch := omega) only [go_sem, e2, e4, e5, e7, e12, e13, e17, e19, e113, e118, e120]; done) | (simp -implicitDefEqProofs (disch := omega) only [go_sem, e2, e4, e5, e7, e12, e13, e17, e19, e113, e118, e120]; rfl))
      · (first | (simp -implicitDefEqProofs (disch := omega) only [go_sem, e2, e4, e5, e7, e12, e13, e17, e19, e113, e118, e120]; done) | (simp -implicitDefEqProofs (disch := omega) only [go_sem, e2, e4, e5, e7, e12, e13, e17, e19, e113, e118, e120]; rfl))
      · simp -implicitDefEqProofs (disch := omega) only [go_sem, e2, e4, e5, e7, e12, e13, e17, e19, e113, e118, e120, hmi]; omega
  rintro f h ⟨w1, ra, rc, x, b, nx, ru, a1, c1, a2, c2, l, kx, hxw, hrr, nra, hnl, hul, hkl, hl, hat, hnx, hkx, hru, e2, e4, e7, rfl⟩
  have hcl2 : ∀ r ∈ nx, r.length ≤ 256 := fun r hr => by
    rw [hnx] at hr
    obtain ⟨k, hk, rfl⟩ := List.mem_map.1 hr
    have hkr := hkx k hk
    have := (r5 (rows.getD k []) (by rw [List.getD_eq_getElem?_getD, List.getElem?_eq_getElem hkr]; exact List.getElem_mem _)).1
    omega
  have hkd : ∀ j, j < l → kx.getD j 0 < rows.length := fun j hj => hkx _ (by rw [List.getD_eq_getElem?_getD, List.getElem?_eq_getElem (by omega)]; exact List.getElem_mem _)
  have hnxd : ∀ j, j < l → nx.getD j [] = rows.getD (kx.getD j 0) [] := fun j hj => by rw [hnx]; exact getD_map _ _ _ _ _ (by omega)
  have hfin : ∀ w', Sat w' [.cells g4 98 #[str s, .int .i64 x, .bool (!b)], Own 46 1 (.slice a1 l c1) l ((List.range l).map fun j => rwv rows ra rc (kx.getD j 0)), Own 3 1 (.slice a2 l c2) l (iv ru), .cells gd 48 (List.toArray (Dfa.dC (intsV F .i64) (.slice a1 l c1) (.slice a2 l c2))), .cells g2 48 (List.toArray (Dfa.dC (intsV F .i64) (.slice a1 l c1) (.slice a2 l c2))), .anchor w1 [g4, gd, g2]] → StillD w w' (.tuple #[.agg (List.toArray (Dfa.dC (intsV F .i64) (.slice a1 l c1) (.slice a2 l c2))), .bool b]) (Tb.readD s) := by
    intro w' hs
    have h1 : w'.ownsRow 0 46 1 (.slice a1 l c1) l ((List.range l).map fun j => rwv rows ra rc (kx.getD j 0)) := hs.mem (Own 46 1 (.slice a1 l c1) l ((List.range l).map fun j => rwv rows ra rc (kx.getD j 0))) (by simp)
    have h3 : w'.ownsRow 0 3 1 (.slice a2 l c2) l (iv ru) := hs.mem (Own 3 1 (.slice a2 l c2) l (iv ru)) (by simp)
    have hx' : Ext [g4, gd, g2] w1 w' := hs.anchor (by simp)
    refine ⟨hxw.backS (S := [g4, gd, g2]) hx' (by simp; omega), ⟨F, nx, ru, a1, c1, fun j => ra (kx.getD j 0), fun j => rc (kx.getD j 0), a2, c2⟩, ?_, ⟨?_, fun j hj => ?_, ?_, ?_, ?_, ?_⟩, ⟨fun k hk => ?_, fun j hj k hk => ?_, fun k hk => ?_⟩, x3, hru, (by show nx.length ≤ 1000; omega), hcl2, ?_⟩
    · unfold Dfa.D.val
      rw [hnl, hul]
      rcases hat with ⟨rfl, h⟩ | ⟨rfl, h⟩
      · rw [h]; rfl
      · rw [h]; rfl
    · show Rd w' a1 nx.length 1 _
      rw [hnl]
      have := own_next h1
      intro hn
      obtain ⟨b0, o0, e, hb, hc⟩ := this hn
      refine ⟨b0, o0, e, hb, fun j hj => ⟨rfl, fun q hq => ?_⟩⟩
      rw [(hc j hj).2 q hq]
      show [rwv rows ra rc (kx.getD j 0)][q]? = [Value.slice (ra (kx.getD j 0)) (nx.getD j []).length (rc (kx.getD j 0))][q]?
      rw [hnxd j hj]; rfl
    · have hj' : j < l := by rw [← hnl]; exact hj
      show Rd w' (ra (kx.getD j 0)) (nx.getD j []).length 1 (Dfa.ints (nx.getD j []))
      rw [hnxd j hj']
      exact (hrr.rows _ (hkd j hj')).keepS hx' fun q hq hm => by
        have := nra _ (hkd j hj') q hq
        simp only [List.mem_cons, List.not_mem_nil, or_false] at hm
        omega
    · show Rd w' a2 ru.length 1 (Dfa.ints ru)
      rw [← hul] at h3
      refine rd_own (e := 3) (c := c2) ?_ fun _ _ => rfl
      rw [flat_ints]
      exact h3
    · show nx.length ≤ maxLen
      simp only [maxLen]; omega
    · intro j
      show (nx.getD j []).length ≤ maxLen
      simp only [maxLen]
      rcases Nat.lt_or_ge j nx.length with h | h
      · have := hcl2 (nx.getD j []) (by rw [List.getD_eq_getElem?_getD, List.getElem?_eq_getElem h]; exact List.getElem_mem _)
        omega
      · rw [List.getD_eq_getElem?_getD, List.getElem?_eq_none h]; simp
    · show ru.length ≤ maxLen
      simp only [maxLen]; omega
    · exact new_block (S := [g4, gd, g2]) (hs.2.2.2.2.2.1 (.anchor w1 [g4, gd, g2]) (by simp) k (own_block hk)) hxw (by simp; omega)
    · have hj' : j < l := by rw [← hnl]; exact hj
      exact (nra _ (hkd j hj') k hk).2
    · exact new_block (S := [g4, gd, g2]) (hs.2.2.2.2.2.2.2.2.1 (.anchor w1 [g4, gd, g2]) (by simp) k (own_block hk)) hxw (by simp; omega)
    · intro y hy
      rcases hat with ⟨_, h⟩ | ⟨_, h⟩
      · rw [h] at hy
        injection hy with hy
        subst hy
        exact ⟨rfl, rfl, rfl⟩
      · rw [h] at hy; cases hy
  simp -implicitDefEqProofs (disch := omega) only [go_sem, e2, e4, e7]
  refine RDraw_seg (by kernel_rfl) (by kernel_rfl) 8 rfl ?_
  refine RS_cutR [0, 1, 2, 3] [4, 5, 6, 7] (by decide +kernel) ?_
  refine RS_det (by kernel_rfl) ?_
  repeat (first | refine ToO_step (fun Q hq => by (simp -implicitDefEqProofs (disch := omega) only [go_sem, e2, e4, e7, hsetN_ne, n24, n4d, n2d, Ne.symm n24, Ne.symm n4d, Ne.symm n2d]; exact hq)) ?_ | refine ToO_guard (by (simp -implicitDefEqProofs only [go_sem, e2, e4, e7, hsetN_ne, n24, n4d, n2d, Ne.symm n24, Ne.symm n4d, Ne.symm n2d]; first | done | fail)) (fun Q hq => by (simp -implicitDefEqProofs (disch := omega) only [go_sem, e2, e4, e7, hsetN_ne, n24, n4d, n2d, Ne.symm n24, Ne.symm n4d, Ne.symm n2d]; exact hq)) ?_ | refine ToO_skip (.inl (by (simp -implicitDefEqProofs only [go_sem, e2, e4, e7, hsetN_ne, n24, n4d, n2d, Ne.symm n24, Ne.symm n4d, Ne.symm n2d]; first | done | fail))) ?_ | refine ToO_skip (.inr (by (simp -implicitDefEqProofs only [go_sem, e2, e4, e7, hsetN_ne, n24, n4d, n2d, Ne.symm n24, Ne.symm n4d, Ne.symm n2d]; first | done | fail))) ?_)
  refine ToO_nil ?_
  refine RS_first [4, 6] (by kernel_rfl) ⟨?_, ?_, trivial⟩
  · simp -implicitDefEqProofs (disch := omega) only [go_sem, e2, e4, e7, hsetN_ne, n24, n4d, n2d, Ne.symm n24, Ne.symm n4d, Ne.symm n2d]
    refine RS_first (L := [5, 6, 7]) [5, 6] (by kernel_rfl) ⟨?_, ?_, trivial⟩
    · simp -implicitDefEqProofs (disch := omega) only [go_sem, e2, e4, e7, hsetN_ne, n24, n4d, n2d, Ne.symm n24, Ne.symm n4d, Ne.symm n2d]
      refine RS_cut (L := [6, 7]) [6] [7] (by decide +kernel) ?_
      refine RS_text (by kernel_rfl) ?_
      simp -implicitDefEqProofs (disch := omega) only [go_sem, e2, e4, e7, hsetN_ne, n24, n4d, n2d, Ne.symm n24, Ne.symm n4d, Ne.symm n2d]
      refine RS_text (by kernel_rfl) ?_
      simp -implicitDefEqProofs (disch := omega) only [go_sem, e2, e4, e7, hsetN_ne, n24, n4d, n2d, Ne.symm n24, Ne.symm n4d, Ne.symm n2d]
      exact hQ _ _ fun w' hs => hfin w' hs
    · simp -implicitDefEqProofs (disch := omega) only [go_sem, e2, e4, e7, hsetN_ne, n24, n4d, n2d, Ne.symm n24, Ne.symm n4d, Ne.symm n2d]
      refine RS_text (L := [5, 7]) (by kernel_rfl) ?_
      simp -implicitDefEqProofs (disch := omega) only [go_sem, e2, e4, e7, hsetN_ne, n24, n4d, n2d, Ne.symm n24, Ne.symm n4d, Ne.symm n2d]
      exact hQ _ _ fun w' hs => hfin w' hs
  · simp -implicitDefEqProofs (disch := omega) only [go_sem, e2, e4, e7, hsetN_ne, n24, n4d, n2d, Ne.symm n24, Ne.symm n4d, Ne.symm n2d]
    refine RS_text (L := [4, 5, 7]) (by kernel_rfl) ?_
    simp -implicitDefEqProofs (disch := omega) only [go_sem, e2, e4, e7, hsetN_ne, n24, n4d, n2d, Ne.symm n24, Ne.symm n4d, Ne.symm n2d]
    exact hQ _ _ fun w' hs => hfin w' hs
end Go.Proofs.Ytldidoaagijnhaa
