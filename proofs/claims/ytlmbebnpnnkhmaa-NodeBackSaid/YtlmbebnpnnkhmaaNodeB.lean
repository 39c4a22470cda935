/- node and its reference: the walks: numbers in a row; whether a node is right. -/
import Derived.Test.YtlmbebnpnnkhmaaNodeA
namespace Go.Proofs.Ytlmbebnpnnkhmaa
set_option linter.unusedSimpArgs false
set_option linter.unusedVariables false
open H
namespace Nd
/-- Numbers and their widths, in bytes. -/
def fC (f : Int × Int) : List Value := [.int .i64 f.1, .int .i64 f.2]
def putF (l : List (Int × Int)) : List UInt8 := l.flatMap fun f => nb f.1 f.2
def nV (n : N) (a1 : Option Addr) (c1 : Nat) (a2 : Option Addr) (c2 : Nat) : Value := .agg #[.bool n.leaf, .slice a1 n.toks.length c1, .slice a2 n.kids.length c2]
structure Mem (w : World) (n : N) (a1 a2 : Option Addr) : Prop where
  toks : Rd w a1 n.toks.length 3 (ofL Tok.tkC Tok.tk0 n.toks)
  kids : Rd w a2 n.kids.length 3 (ofL Tok.tkC Tok.tk0 n.kids)
theorem Mem.keep {w w' : World} {n : N} {a1 a2 : Option Addr} (h : Mem w n a1 a2) (hx : Ext [] w w') : Mem w' n a1 a2 := ⟨h.toks.keep hx, h.kids.keep hx⟩
theorem putF_take {l : List (Int × Int)} {i : Nat} (h : i < l.length) : putF (l.take (i + 1)) = putF (l.take i) ++ nb (l.getD i (0, 0)).1 (l.getD i (0, 0)).2 := by
  unfold putF
  rw [List.take_add_one, List.getElem?_eq_getElem h, Option.toList_some, List.flatMap_append, List.getD_eq_getElem?_getD, List.getElem?_eq_getElem h]; simp
theorem fixed_len (n wd : Int) : (Vint.fixed n wd).1.length ≤ 8 := by
  unfold Vint.fixed
  split
  · simp
  · rename_i h
    split
    · rw [Vint.fixL_len]
      have : Vint.wide wd := Decidable.byContradiction fun hc => h (.inl hc)
      unfold Vint.wide at this
      omega
    · simp
theorem putF_len : ∀ l : List (Int × Int), (putF l).length ≤ 8 * l.length
  | [] => by simp [putF]
  | f :: l => by
    have h1 := putF_len l
    have h2 := fixed_len f.1 f.2
    unfold putF at h1 ⊢
    unfold nb at h1 ⊢
    rw [List.flatMap_cons, List.length_append, List.length_cons]
    omega
end Nd
theorem two_at {w : World} {a : Option Addr} {l : List (Int × Int)} (hr : Rd w a l.length 2 (ofL Nd.fC (0, 0) l)) (i : Nat) (hi : i < l.length) :
    ∃ b o, a = some ⟨b, o, none⟩ ∧ b < w.heap.size ∧ cellsN w ⟨b, o + i * 2, none⟩ 2 = some #[.int .i64 (l.getD i (0, 0)).1, .int .i64 (l.getD i (0, 0)).2] := by
  obtain ⟨b, o, e, hb, hc, hj⟩ := hr.at_ i hi
  exact ⟨b, o, e, hb, hc⟩
set_option maxHeartbeats 1000000 in
theorem node_put (l : List (Int × Int)) (a : Option Addr) (c : Nat) (hl : l.length ≤ 2147483648) (hb : ∀ f ∈ l, -9223372036854775808 ≤ f.1 ∧ f.1 ≤ 9223372036854775807) (w : World) (hr : Rd w a l.length 2 (ofL Nd.fC (0, 0) l)) : Does Try.prog 33 #[.slice a l.length c] w fun v w' => v = str (Nd.putF l) ∧ Ext [] w w' := by
  refine does (args := [.slice a l.length c]) Try.func33 rfl (by kernel_rfl) (by kernel_rfl) rfl ent_33 (Sat.start w []) ?_; intro QV hQ
  simp -implicitDefEqProofs (disch := omega) only [go_sem]
  refine RLoop_intro (fun f h => ∃ (i : Nat), i ≤ l.length ∧ f 3 = str (Nd.putF (l.take i)) ∧ f 8 = .slice a l.length c ∧ f 9 = .int .i64 (l.length : Int) ∧ f 10 = .int .i64 (i : Int) ∧ h = [.anchor w []]) (fun f _ => (l.length - ival (f 10)).toNat) ?_ ?_
  · exact ⟨0, by omega, by (first | (simp -implicitDefEqProofs (disch := omega) only [go_sem]; done) | (simp -implicitDefEqProofs (disch := omega) only [go_sem]; rfl)), by (first | (simp -implicitDefEqProofs (disch := omega) only [go_sem]; done) | (simp -implicitDefEqProofs (disch := omega) only [go_sem]; rfl)), by (first | (simp -implicitDefEqProofs (disch := omega) only [go_sem]; done) | (simp -implicitDefEqProofs (disch := omega) only [go_sem]; rfl)), by (first | (simp -implicitDefEqProofs (disch := omega) only [go_sem]; done) | (simp -implicitDefEqProofs (disch := omega) only [go_sem]; rfl)), rfl⟩
  rintro f h ⟨i, hi, e3, e8, e9, e10, rfl⟩ Q' hQ'
  by_cases hil : i < l.length
  · have g1 : (i : Int) < (l.length : Int) := by omega
    obtain ⟨b, o, rfl, hbb, hc⟩ := two_at hr i hil
    have hnext := Nd.putF_take hil
    have hlen := Nd.putF_len (l.take i)
    rw [List.length_take] at hlen
    have hbi := hb (l.getD i (0, 0)) (by rw [List.getD_eq_getElem?_getD, List.getElem?_eq_getElem hil]; exact List.getElem_mem _)
    generalize l.getD i (0, 0) = x at *
    obtain ⟨n, wd⟩ := x
    simp only [] at hc hnext hbi
    simp -implicitDefEqProofs (disch := omega) only [go_sem, e3, e8, e9, e10, g1, hc, decide_true]
    refine RNew_intro fun g hg => ?_
    simp only [below_cons, below_nil, under_anchor, and_true] at hg
    simp -implicitDefEqProofs (disch := omega) only [go_sem, e3, e8, e9, e10]
    have hlen2 := Nd.fixed_len n wd
    refine RCall_eq (vint_fixed n wd hbi) ?_
    simp -implicitDefEqProofs (disch := omega) only [go_sem, e3, e8, e9, e10]
    refine hQ' _ _ _ (fun _ hs => hs.2.2.2) ⟨i + 1, by omega, ?_, ?_, ?_, ?_, rfl⟩ ?_
    · rw [hnext]; (first | (simp -implicitDefEqProofs (disch := omega) only [go_sem, e3, e8, e9, e10]; done) | (simp -implicitDefEqProofs (disch := omega) only [go_sem, e3, e8, e9, e10]; rfl))
    · (first | (simp -implicitDefEqProofs (disch := omega) only [go_sem, e3, e8, e9, e10]; done) | (simp -implicitDefEqProofs (disch := omega) only [go_sem, e3, e8, e9, e10]; rfl))
    · (first | (simp -implicitDefEqProofs (disch := omega) only [go_sem, e3, e8, e9, e10]; done) | (simp -implicitDefEqProofs (disch := omega) only [go_sem, e3, e8, e9, e10]; rfl))
    · (first | (simp -implicitDefEqProofs (disch := omega) only [go_sem, e3, e8, e9, e10]; done) | (simp -implicitDefEqProofs (disch := omega) only [go_sem, e3, e8, e9, e10]; rfl))
    · simp -implicitDefEqProofs (disch := omega) only [go_sem, e3, e8, e9, e10]; omega
  · have g1 : ¬ (i : Int) < (l.length : Int) := by omega
    rw [List.take_of_length_le (by omega)] at e3
    simp -implicitDefEqProofs (disch := omega) only [go_sem, e3, e8, e9, e10, g1, decide_false]
    exact hQ _ _ fun w' hs => ⟨rfl, hs.anchor (by simp)⟩

theorem right_t {n : Nd.N} (h : Nd.upT n.toks = false) : Nd.right n = false := by unfold Nd.right; rw [h]; rfl
theorem right_k {n : Nd.N} (h : Nd.upK n.kids = false) : Nd.right n = false := by unfold Nd.right; rw [h]; simp
theorem right_s {n : Nd.N} (h1 : Nd.upT n.toks = true) (h2 : Nd.upK n.kids = true) : Nd.right n = Nd.sizes n := by unfold Nd.right; rw [h1, h2]; rfl
set_option maxHeartbeats 2000000 in
theorem node_right (n : Nd.N) (a1 a2 : Option Addr) (c1 c2 : Nat) (hl1 : n.toks.length ≤ 2147483648) (hl2 : n.kids.length ≤ 2147483648) (w : World) (hm : Nd.Mem w n a1 a2) : Does Try.prog 16 #[Nd.nV n a1 c1 a2 c2] w fun v w' => v = .bool (Nd.right n) ∧ Ext [] w w' := by
  unfold Nd.nV
  refine does (args := [.agg #[.bool n.leaf, .slice a1 n.toks.length c1, .slice a2 n.kids.length c2]]) Try.func16 rfl (by kernel_rfl) (by kernel_rfl) rfl ent_16 (Sat.start w []) ?_; intro QV hQ
  simp -implicitDefEqProofs (disch := omega) only [go_sem]
  refine RNew_intro fun g hg => ?_
  simp only [below_cons, below_nil, under_anchor, and_true] at hg
  simp -implicitDefEqProofs (disch := omega) only [go_sem]
  generalize hH : [Res.cells g 35 #[.bool n.leaf, .slice a1 n.toks.length c1, .slice a2 n.kids.length c2], .anchor w []] = H at *
  refine RLoop_intro (fun f h => ∃ (i : Nat) (last : Int), i ≤ n.toks.length ∧ Nd.up Nd.okT (fun t => t.1) last (n.toks.drop i) = Nd.upT n.toks ∧ f 1 = .pointer (some ⟨g, 0, none⟩) ∧ f 3 = .int .i64 last ∧ f 9 = .slice a1 n.toks.length c1 ∧ f 10 = .int .i64 (n.toks.length : Int) ∧ f 11 = .int .i64 (i : Int) ∧ h = H) (fun f _ => (n.toks.length - ival (f 11)).toNat) ?_ ?_
  · exact ⟨0, -1, by omega, rfl, by (first | (simp -implicitDefEqProofs (disch := omega) only [go_sem]; done) | (simp -implicitDefEqProofs (disch := omega) only [go_sem]; rfl)), by (first | (simp -implicitDefEqProofs (disch := omega) only [go_sem]; done) | (simp -implicitDefEqProofs (disch := omega) only [go_sem]; rfl)), by (first | (simp -implicitDefEqProofs (disch := omega) only [go_sem]; done) | (simp -implicitDefEqProofs (disch := omega) only [go_sem]; rfl)), by (first | (simp -implicitDefEqProofs (disch := omega) only [go_sem]; done) | (simp -implicitDefEqProofs (disch := omega) only [go_sem]; rfl)), by (first | (simp -implicitDefEqProofs (disch := omega) only [go_sem]; done) | (simp -implicitDefEqProofs (disch := omega) only [go_sem]; rfl)), rfl⟩
  rintro f h ⟨i, last, hi, hup, e1, e3, e9, e10, e11, rfl⟩ Q' hQ'
  subst hH
  by_cases hil : i < n.toks.length
  · have g1 : (i : Int) < (n.toks.length : Int) := by omega
    obtain ⟨b, o, rfl, hbb, hc, _⟩ := three_at hm.toks i hil
    rw [Nd.up_step hil] at hup
    generalize n.toks.getD i Tok.tk0 = x at hc hup
    simp -implicitDefEqProofs (disch := omega) only [go_sem, e1, e3, e9, e10, e11, g1, hc, decide_true]
    refine RNew_intro fun g2 hg2 => ?_
    simp only [below_cons, below_nil, under_anchor, under_cells, and_true] at hg2
    simp -implicitDefEqProofs (disch := omega) only [go_sem, e1, e3, e9, e10, e11]
    refine RCall_eq (node_token x) ?_
    cases hok : Nd.okT x with
    | false =>
      rw [hok] at hup
      simp -implicitDefEqProofs (disch := omega) only [go_sem, e1, e3, e9, e10, e11]
      exact hQ _ _ fun w' hs => ⟨by rw [right_t hup.symm], hs.anchor (by simp)⟩
    | true =>
      by_cases hlt : last < x.1
      · have hlt' : ¬ x.1 ≤ last := by omega
        rw [hok, decide_eq_true hlt] at hup
        simp -implicitDefEqProofs (disch := omega) only [go_sem, e1, e3, e9, e10, e11, hlt', decide_false]
        refine hQ' _ _ _ (fun _ hs => hs.2.2.2) ⟨i + 1, x.1, by omega, hup, ?_, ?_, ?_, ?_, ?_, rfl⟩ ?_
        · (first | (simp -implicitDefEqProofs (disch := omega) only [go_sem, e1, e3, e9, e10, e11]; done) | (simp -implicitDefEqProofs (disch := omega) only [go_sem, e1, e3, e9, e10, e11]; rfl))
        · (first | (simp -implicitDefEqProofs (disch := omega) only [go_sem, e1, e3, e9, e10, e11]; done) | (simp -implicitDefEqProofs (disch := omega) only [go_sem, e1, e3, e9, e10, e11]; rfl))
        · (first | (simp -implicitDefEqProofs (disch := omega) only [go_sem, e1, e3, e9, e10, e11]; done) | (simp -implicitDefEqProofs (disch := omega) only [go_sem, e1, e3, e9, e10, e11]; rfl))
        · (first | (simp -implicitDefEqProofs (disch := omega) only [go_sem, e1, e3, e9, e10, e11]; done) | (simp -implicitDefEqProofs (disch := omega) only [go_sem, e1, e3, e9, e10, e11]; rfl))
        · (first | (simp -implicitDefEqProofs (disch := omega) only [go_sem, e1, e3, e9, e10, e11]; done) | (simp -implicitDefEqProofs (disch := omega) only [go_sem, e1, e3, e9, e10, e11]; rfl))
        · simp -implicitDefEqProofs (disch := omega) only [go_sem, e1, e3, e9, e10, e11]; omega
      · have hlt' : x.1 ≤ last := by omega
        rw [hok, decide_eq_false hlt] at hup
        simp -implicitDefEqProofs (disch := omega) only [go_sem, e1, e3, e9, e10, e11, hlt', decide_true]
        exact hQ _ _ fun w' hs => ⟨by rw [right_t hup.symm], hs.anchor (by simp)⟩
  have g1 : ¬ (i : Int) < (n.toks.length : Int) := by omega
  rw [List.drop_eq_nil_of_le (by omega)] at hup
  have hT : Nd.upT n.toks = true := hup.symm
  simp -implicitDefEqProofs (disch := omega) only [go_sem, e1, e3, e9, e10, e11, g1, decide_false]
  clear hup e3 e9 e10 e11 g1 hQ'
  generalize hH : [Res.cells g 35 #[.bool n.leaf, .slice a1 n.toks.length c1, .slice a2 n.kids.length c2], .anchor w []] = H at *
  refine RLoop_intro (fun f h => ∃ (i : Nat) (last : Int), i ≤ n.kids.length ∧ Nd.up Nd.okK (fun t => t.2.2) last (n.kids.drop i) = Nd.upK n.kids ∧ f 1 = .pointer (some ⟨g, 0, none⟩) ∧ f 3 = .int .i64 last ∧ f 28 = .slice a2 n.kids.length c2 ∧ f 29 = .int .i64 (n.kids.length : Int) ∧ f 30 = .int .i64 (i : Int) ∧ h = H) (fun f _ => (n.kids.length - ival (f 30)).toNat) ?_ ?_
  · exact ⟨0, -1, by omega, rfl, by (first | (simp -implicitDefEqProofs (disch := omega) only [go_sem, e1]; done) | (simp -implicitDefEqProofs (disch := omega) only [go_sem, e1]; rfl)), by (first | (simp -implicitDefEqProofs (disch := omega) only [go_sem]; done) | (simp -implicitDefEqProofs (disch := omega) only [go_sem]; rfl)), by (first | (simp -implicitDefEqProofs (disch := omega) only [go_sem]; done) | (simp -implicitDefEqProofs (disch := omega) only [go_sem]; rfl)), by (first | (simp -implicitDefEqProofs (disch := omega) only [go_sem]; done) | (simp -implicitDefEqProofs (disch := omega) only [go_sem]; rfl)), by (first | (simp -implicitDefEqProofs (disch := omega) only [go_sem]; done) | (simp -implicitDefEqProofs (disch := omega) only [go_sem]; rfl)), rfl⟩
  rintro f h ⟨j, last, hj, hup, q1, q3, q28, q29, q30, rfl⟩ Q' hQ'
  subst hH
  by_cases hil : j < n.kids.length
  · have g1 : (j : Int) < (n.kids.length : Int) := by omega
    obtain ⟨b, o, rfl, hbb, hc, _⟩ := three_at hm.kids j hil
    rw [Nd.up_step hil] at hup
    generalize n.kids.getD j Tok.tk0 = x at hc hup
    simp -implicitDefEqProofs (disch := omega) only [go_sem, q1, q3, q28, q29, q30, g1, hc, decide_true]
    refine RNew_intro fun g2 hg2 => ?_
    simp only [below_cons, below_nil, under_anchor, under_cells, and_true] at hg2
    simp -implicitDefEqProofs (disch := omega) only [go_sem, q1, q3, q28, q29, q30]
    refine RCall_eq (node_kid x) ?_
    cases hok : Nd.okK x with
    | false =>
      rw [hok] at hup
      simp -implicitDefEqProofs (disch := omega) only [go_sem, q1, q3, q28, q29, q30]
      exact hQ _ _ fun w' hs => ⟨by rw [right_k hup.symm], hs.anchor (by simp)⟩
    | true =>
      by_cases hlt : last < x.2.2
      · have hlt' : ¬ x.2.2 ≤ last := by omega
        rw [hok, decide_eq_true hlt] at hup
        simp -implicitDefEqProofs (disch := omega) only [go_sem, q1, q3, q28, q29, q30, hlt', decide_false]
        refine hQ' _ _ _ (fun _ hs => hs.2.2.2) ⟨j + 1, x.2.2, by omega, hup, ?_, ?_, ?_, ?_, ?_, rfl⟩ ?_
        · (first | (simp -implicitDefEqProofs (disch := omega) only [go_sem, q1, q3, q28, q29, q30]; done) | (simp -implicitDefEqProofs (disch := omega) only [go_sem, q1, q3, q28, q29, q30]; rfl))
        · (first | (simp -implicitDefEqProofs (disch := omega) only [go_sem, q1, q3, q28, q29, q30]; done) | (simp -implicitDefEqProofs (disch := omega) only [go_sem, q1, q3, q28, q29, q30]; rfl))
        · (first | (simp -implicitDefEqProofs (disch := omega) only [go_sem, q1, q3, q28, q29, q30]; done) | (simp -implicitDefEqProofs (disch := omega) only [go_sem, q1, q3, q28, q29, q30]; rfl))
        · (first | (simp -implicitDefEqProofs (disch := omega) only [go_sem, q1, q3, q28, q29, q30]; done) | (simp -implicitDefEqProofs (disch := omega) only [go_sem, q1, q3, q28, q29, q30]; rfl))
        · (first | (simp -implicitDefEqProofs (disch := omega) only [go_sem, q1, q3, q28, q29, q30]; done) | (simp -implicitDefEqProofs (disch := omega) only [go_sem, q1, q3, q28, q29, q30]; rfl))
        · simp -implicitDefEqProofs (disch := omega) only [go_sem, q1, q3, q28, q29, q30]; omega
      · have hlt' : x.2.2 ≤ last := by omega
        rw [hok, decide_eq_false hlt] at hup
        simp -implicitDefEqProofs (disch := omega) only [go_sem, q1, q3, q28, q29, q30, hlt', decide_true]
        exact hQ _ _ fun w' hs => ⟨by rw [right_k hup.symm], hs.anchor (by simp)⟩
  have g1 : ¬ (j : Int) < (n.kids.length : Int) := by omega
  rw [List.drop_eq_nil_of_le (by omega)] at hup
  rw [right_s hT hup.symm] at hQ
  unfold Nd.sizes at hQ
  cases hlf : n.leaf with
  | true =>
    rw [hlf, if_pos rfl] at hQ
    simp -implicitDefEqProofs (disch := omega) only [go_sem, q1, q3, q28, q29, q30, g1, hlf, decide_false]
    by_cases h1 : n.kids.length = 0
    · have h1' : (n.kids.length : Int) = 0 := by omega
      by_cases h2 : n.toks.length ≤ 35
      · have h2' : (n.toks.length : Int) ≤ 35 := by omega
        simp -implicitDefEqProofs (disch := omega) only [go_sem, q1, q3, q28, q29, q30, h1', h2', decide_true, decide_false]
        exact hQ _ _ fun w' hs => ⟨by rw [decide_eq_true h1, decide_eq_true h2]; rfl, hs.anchor (by simp)⟩
      · have h2' : ¬ (n.toks.length : Int) ≤ 35 := by omega
        simp -implicitDefEqProofs (disch := omega) only [go_sem, q1, q3, q28, q29, q30, h1', h2', decide_true, decide_false]
        exact hQ _ _ fun w' hs => ⟨by rw [decide_eq_true h1, decide_eq_false h2]; rfl, hs.anchor (by simp)⟩
    · have h1' : ¬ (n.kids.length : Int) = 0 := by omega
      simp -implicitDefEqProofs (disch := omega) only [go_sem, q1, q3, q28, q29, q30, h1', decide_false]
      exact hQ _ _ fun w' hs => ⟨by rw [decide_eq_false h1]; rfl, hs.anchor (by simp)⟩
  | false =>
    rw [hlf, if_neg (by simp)] at hQ
    simp -implicitDefEqProofs (disch := omega) only [go_sem, q1, q3, q28, q29, q30, g1, hlf, decide_false]
    by_cases h1 : n.toks.length = 0
    · have h1' : (n.toks.length : Int) = 0 := by omega
      simp -implicitDefEqProofs (disch := omega) only [go_sem, q1, q3, q28, q29, q30, h1', decide_true, decide_false]
      refine RCall_eq (node_between (n.kids.length : Int) 1 20) ?_
      simp -implicitDefEqProofs (disch := omega) only [go_sem, q1, q3, q28, q29, q30]
      exact hQ _ _ fun w' hs => ⟨by rw [decide_eq_true h1]; rfl, hs.anchor (by simp)⟩
    · have h1' : ¬ (n.toks.length : Int) = 0 := by omega
      simp -implicitDefEqProofs (disch := omega) only [go_sem, q1, q3, q28, q29, q30, h1', decide_false]
      exact hQ _ _ fun w' hs => ⟨by rw [decide_eq_false h1]; rfl, hs.anchor (by simp)⟩
end Go.Proofs.Ytlmbebnpnnkhmaa
