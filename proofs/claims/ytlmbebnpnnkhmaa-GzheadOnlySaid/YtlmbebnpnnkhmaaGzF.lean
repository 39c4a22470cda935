/- gzhead: the walk: the fields that flags tell. -/
import Derived.Test.YtlmbebnpnnkhmaaGzE
import Derived.Test.YtlmbebnpnnkhmaaSegF
namespace Go.Proofs.Ytlmbebnpnnkhmaa
set_option linter.unusedSimpArgs false
set_option linter.unusedVariables false
open H
/-- How far the fields have been read: after i of them. -/
def Gz.Prog (s : List UInt8) (f p : Nat) : Nat → List UInt8 → List UInt8 → List UInt8 → Nat → Bool → Prop
  | _, _, _, _, q, true => (p ≤ q ∧ q ≤ s.length) ∧ Gz.flds s f p = none
  | 0, e, n, t, q, false => (p ≤ q ∧ q ≤ s.length) ∧ e = [] ∧ n = [] ∧ t = [] ∧ q = p
  | 1, e, n, t, q, false => (p ≤ q ∧ q ≤ s.length) ∧ Gz.opt f 4 Gz.takeX s p = some (e, q) ∧ n = [] ∧ t = []
  | 2, e, n, t, q, false => (p ≤ q ∧ q ≤ s.length) ∧ ∃ p1, Gz.opt f 4 Gz.takeX s p = some (e, p1) ∧ Gz.opt f 8 Gz.takeZ s p1 = some (n, q) ∧ t = []
  | _, e, n, t, q, false => (p ≤ q ∧ q ≤ s.length) ∧ Gz.flds s f p = some (e, n, t, q)
theorem prog_le {s : List UInt8} {f p i : Nat} {e n t : List UInt8} {q : Nat} {sh : Bool} (h : Gz.Prog s f p i e n t q sh) : p ≤ q ∧ q ≤ s.length := by
  cases sh
  · match i, h with
    | 0, h => exact h.1
    | 1, h => exact h.1
    | 2, h => exact h.1
    | k + 3, h => exact h.1
  · match i, h with
    | 0, h => exact h.1
    | 1, h => exact h.1
    | 2, h => exact h.1
    | k + 3, h => exact h.1
theorem prog_dead {s : List UInt8} {f p i : Nat} {e n t : List UInt8} {q : Nat} (h : Gz.Prog s f p i e n t q true) : Gz.flds s f p = none := by
  match i, h with
  | 0, h => exact h.2
  | 1, h => exact h.2
  | 2, h => exact h.2
  | k + 3, h => exact h.2
theorem prog_die {s : List UInt8} {f p : Nat} (i : Nat) (e n t : List UInt8) {q : Nat} (h : p ≤ q ∧ q ≤ s.length) (hn : Gz.flds s f p = none) : Gz.Prog s f p i e n t q true := by
  match i with
  | 0 => exact ⟨h, hn⟩
  | 1 => exact ⟨h, hn⟩
  | 2 => exact ⟨h, hn⟩
  | k + 3 => exact ⟨h, hn⟩
theorem opt_no {f b : Nat} {t : List UInt8 → Nat → Option (List UInt8 × Nat)} (h : Gz.has f b = false) (s : List UInt8) (p : Nat) : Gz.opt f b t s p = some ([], p) := by unfold Gz.opt; rw [h]; rfl
theorem opt_yes {f b : Nat} {t : List UInt8 → Nat → Option (List UInt8 × Nat)} (h : Gz.has f b = true) (s : List UInt8) (p : Nat) : Gz.opt f b t s p = t s p := by unfold Gz.opt; rw [h]; rfl
theorem flds_no1 {s : List UInt8} {f p : Nat} (h : Gz.opt f 4 Gz.takeX s p = none) : Gz.flds s f p = none := by unfold Gz.flds; rw [h]
theorem flds_no2 {s : List UInt8} {f p : Nat} {e : List UInt8} {p1 : Nat} (h : Gz.opt f 4 Gz.takeX s p = some (e, p1)) (h2 : Gz.opt f 8 Gz.takeZ s p1 = none) : Gz.flds s f p = none := by unfold Gz.flds; rw [h]; simp only; rw [h2]
theorem flds_no3 {s : List UInt8} {f p : Nat} {e n : List UInt8} {p1 p2 : Nat} (h : Gz.opt f 4 Gz.takeX s p = some (e, p1)) (h2 : Gz.opt f 8 Gz.takeZ s p1 = some (n, p2)) (h3 : Gz.opt f 16 Gz.takeZ s p2 = none) : Gz.flds s f p = none := by
  unfold Gz.flds; rw [h]; simp only; rw [h2]; simp only; rw [h3]
theorem flds_yes {s : List UInt8} {f p : Nat} {e n t : List UInt8} {p1 p2 p3 : Nat} (h : Gz.opt f 4 Gz.takeX s p = some (e, p1)) (h2 : Gz.opt f 8 Gz.takeZ s p1 = some (n, p2)) (h3 : Gz.opt f 16 Gz.takeZ s p2 = some (t, p3)) : Gz.flds s f p = some (e, n, t, p3) := by
  unfold Gz.flds; rw [h]; simp only; rw [h2]; simp only; rw [h3]
theorem takeX_le {s : List UInt8} {p : Nat} {e : List UInt8} {q : Nat} (h : Gz.takeX s p = some (e, q)) : p ≤ q ∧ q ≤ s.length := ⟨(Gz.takeX_some h).2.1, (Gz.takeX_some h).2.2.1⟩
theorem takeZ_le {s : List UInt8} {p : Nat} {e : List UInt8} {q : Nat} (hp : p ≤ s.length) (h : Gz.takeZ s p = some (e, q)) : p ≤ q ∧ q ≤ s.length := ⟨(Gz.takeZ_some hp h).2.1, (Gz.takeZ_some hp h).2.2.1⟩

theorem prog_skip0 {s : List UInt8} {f p : Nat} {e n t : List UInt8} {q : Nat} {sh : Bool} (hh : Gz.has f 4 = false) (h : Gz.Prog s f p 0 e n t q sh) : Gz.Prog s f p 1 e n t q sh := by
  cases sh
  · obtain ⟨hle, h⟩ := h
    obtain ⟨rfl, rfl, rfl, rfl⟩ := h
    exact ⟨hle, opt_no hh s _, rfl, rfl⟩
  · exact ⟨h.1, h.2⟩
theorem prog_got0 {s : List UInt8} {f p : Nat} {e n t : List UInt8} {q : Nat} {sh : Bool} {v : Value} {cs : Array Value} (hh : Gz.has f 4 = true) (h : Gz.Prog s f p 0 e n t q sh) (hg : Gz.Got Gz.takeX s q sh v cs) :
    ∃ e' q' sh', v = str e' ∧ cs = #[str s, .int .i64 ((q' : Nat) : Int), .bool sh'] ∧ Gz.Prog s f p 1 e' n t q' sh' := by
  have hle := prog_le h
  rcases hg with ⟨x, q', rfl, ht, hv, hc⟩ | ⟨hd, hv, q', h1, h2, hc⟩
  · obtain ⟨_, h⟩ := h
    have hq := takeX_le ht
    refine ⟨x, q', false, hv, hc, ?_⟩
    obtain ⟨rfl, rfl, rfl, rfl⟩ := h
    exact ⟨⟨by omega, hq.2⟩, by rw [opt_yes hh]; exact ht, rfl, rfl⟩
  · refine ⟨[], q', true, hv, hc, prog_die _ _ _ _ ⟨by omega, h2⟩ ?_⟩
    cases sh
    · obtain ⟨_, h⟩ := h
      have ht := hd.resolve_left (by simp)
      obtain ⟨rfl, rfl, rfl, rfl⟩ := h
      exact flds_no1 (by rw [opt_yes hh]; exact ht)
    · exact prog_dead h
theorem prog_skip1 {s : List UInt8} {f p : Nat} {e n t : List UInt8} {q : Nat} {sh : Bool} (hh : Gz.has f 8 = false) (h : Gz.Prog s f p 1 e n t q sh) : Gz.Prog s f p 2 e n t q sh := by
  cases sh
  · obtain ⟨hle, h⟩ := h
    obtain ⟨h1, rfl, rfl⟩ := h
    exact ⟨hle, q, h1, opt_no hh s _, rfl⟩
  · exact ⟨h.1, h.2⟩
theorem prog_got1 {s : List UInt8} {f p : Nat} {e n t : List UInt8} {q : Nat} {sh : Bool} {v : Value} {cs : Array Value} (hh : Gz.has f 8 = true) (h : Gz.Prog s f p 1 e n t q sh) (hg : Gz.Got Gz.takeZ s q sh v cs) :
    ∃ n' q' sh', v = str n' ∧ cs = #[str s, .int .i64 ((q' : Nat) : Int), .bool sh'] ∧ Gz.Prog s f p 2 e n' t q' sh' := by
  have hle := prog_le h
  rcases hg with ⟨x, q', rfl, ht, hv, hc⟩ | ⟨hd, hv, q', h1, h2, hc⟩
  · obtain ⟨_, h⟩ := h
    have hq := takeZ_le hle.2 ht
    refine ⟨x, q', false, hv, hc, ?_⟩
    obtain ⟨h1, rfl, rfl⟩ := h
    exact ⟨⟨by omega, hq.2⟩, q, h1, by rw [opt_yes hh]; exact ht, rfl⟩
  · refine ⟨[], q', true, hv, hc, prog_die _ _ _ _ ⟨by omega, h2⟩ ?_⟩
    cases sh
    · obtain ⟨_, h⟩ := h
      have ht := hd.resolve_left (by simp)
      obtain ⟨h1, rfl, rfl⟩ := h
      exact flds_no2 h1 (by rw [opt_yes hh]; exact ht)
    · exact prog_dead h
theorem prog_skip2 {s : List UInt8} {f p : Nat} {e n t : List UInt8} {q : Nat} {sh : Bool} (hh : Gz.has f 16 = false) (h : Gz.Prog s f p 2 e n t q sh) : Gz.Prog s f p 3 e n t q sh := by
  cases sh
  · obtain ⟨hle, h⟩ := h
    obtain ⟨p1, h1, h2, rfl⟩ := h
    exact ⟨hle, flds_yes h1 h2 (opt_no hh s _)⟩
  · exact ⟨h.1, h.2⟩
theorem prog_got2 {s : List UInt8} {f p : Nat} {e n t : List UInt8} {q : Nat} {sh : Bool} {v : Value} {cs : Array Value} (hh : Gz.has f 16 = true) (h : Gz.Prog s f p 2 e n t q sh) (hg : Gz.Got Gz.takeZ s q sh v cs) :
    ∃ t' q' sh', v = str t' ∧ cs = #[str s, .int .i64 ((q' : Nat) : Int), .bool sh'] ∧ Gz.Prog s f p 3 e n t' q' sh' := by
  have hle := prog_le h
  rcases hg with ⟨x, q', rfl, ht, hv, hc⟩ | ⟨hd, hv, q', h1, h2, hc⟩
  · obtain ⟨_, h⟩ := h
    have hq := takeZ_le hle.2 ht
    refine ⟨x, q', false, hv, hc, ?_⟩
    obtain ⟨p1, h1, h2, rfl⟩ := h
    exact ⟨⟨by omega, hq.2⟩, flds_yes h1 h2 (by rw [opt_yes hh]; exact ht)⟩
  · refine ⟨[], q', true, hv, hc, prog_die _ _ _ _ ⟨by omega, h2⟩ ?_⟩
    cases sh
    · obtain ⟨_, h⟩ := h
      have ht := hd.resolve_left (by simp)
      obtain ⟨p1, h1, h2, rfl⟩ := h
      exact flds_no3 h1 h2 (by rw [opt_yes hh]; exact ht)
    · exact prog_dead h
/-- What the fields leave. -/
def Gz.Left (s : List UInt8) (f p g g2 : Nat) (tm lv os : Int) (tx sm : Bool) (fl : Int) (v : Value) (rs : List Res) : Prop :=
  ∃ e n t q sh, v = .tuple #[] ∧ Gz.Prog s f p 3 e n t q sh ∧ rs = [.cells g 82 #[str s, .int .i64 (q : Int), .bool sh], .cells g2 49 #[.int .i64 tm, str e, str n, str t, .int .i64 lv, .int .i64 os, .bool tx, .bool sm, .int .i64 fl]]
set_option maxRecDepth 20000 in
set_option maxHeartbeats 8000000 in
theorem gz_fields (s : List UInt8) (hsl : s.length ≤ 4611686018427387904) (f p : Nat) (hf : f < 32) (hp : p ≤ s.length) (g g2 : Nat) (ng : g ≠ g2) (tm lv os : Int) (tx sm : Bool) (fl : Int) (w : World)
    (hs0 : Sat w [.cells g 82 #[str s, .int .i64 (p : Int), .bool false], .cells g2 49 #[.int .i64 tm, str [], str [], str [], .int .i64 lv, .int .i64 os, .bool tx, .bool sm, .int .i64 fl], .anchor w [g, g2]]) :
    Does Try.prog 50 #[.pointer (some ⟨g, 0, none⟩), .int .i64 (f : Int), .pointer (some ⟨g2, 0, none⟩)] w fun v w' => ∃ rs, Sat w' (rs ++ [.anchor w [g, g2]]) ∧ Gz.Left s f p g g2 tm lv os tx sm fl v rs := by
  have hgl : g < w.heap.size := hs0.2.1 g rfl
  have hgl2 : g2 < w.heap.size := hs0.2.2.2.2.1 g2 rfl
  refine does (args := [.pointer (some ⟨g, 0, none⟩), .int .i64 (f : Int), .pointer (some ⟨g2, 0, none⟩)]) Try.func50 rfl (by kernel_rfl) (by kernel_rfl) rfl ent_50 (hs0) ?_; intro QV hQ
  have ng' : g2 ≠ g := Ne.symm ng
  simp -implicitDefEqProofs (disch := omega) only [go_sem]
  refine RDraw_seg (by kernel_rfl) (by kernel_rfl) 21 rfl ?_
  refine RS_cutR [0, 1, 2, 3, 4, 5, 6, 7, 8, 9, 10, 11, 12, 13, 14, 15, 16, 17, 20] [18, 19] (by decide +kernel) ?_
  refine RS_det (by kernel_rfl) ?_
  repeat (first | refine ToO_step (fun Q hq => by (simp -implicitDefEqProofs (disch := omega) only [go_sem]; exact hq)) ?_ | refine ToO_guard (by (simp -implicitDefEqProofs only [go_sem]; first | done | fail)) (fun Q hq => by (simp -implicitDefEqProofs (disch := omega) only [go_sem]; exact hq)) ?_ | refine ToO_skip (.inl (by (simp -implicitDefEqProofs only [go_sem]; first | done | fail))) ?_ | refine ToO_skip (.inr (by (simp -implicitDefEqProofs only [go_sem]; first | done | fail))) ?_)
  refine ToO_nil ?_
  refine RS_text (by kernel_rfl) ?_
  simp -implicitDefEqProofs (disch := omega) only [go_sem]
  refine RRun_buildz (e := 96) [.agg #[.int .i64 4, .func (.func 58) #[.pointer (some ⟨g, 0, none⟩)] #[], .pointer (some ⟨g2, 1, none⟩)], .agg #[.int .i64 8, .func (.func 59) #[.pointer (some ⟨g, 0, none⟩)] #[], .pointer (some ⟨g2, 2, none⟩)], .agg #[.int .i64 16, .func (.func 59) #[.pointer (some ⟨g, 0, none⟩)] #[], .pointer (some ⟨g2, 3, none⟩)]] [.int .i64 4, .func (.func 58) #[.pointer (some ⟨g, 0, none⟩)] #[], .pointer (some ⟨g2, 1, none⟩), .int .i64 8, .func (.func 59) #[.pointer (some ⟨g, 0, none⟩)] #[], .pointer (some ⟨g2, 2, none⟩), .int .i64 16, .func (.func 59) #[.pointer (some ⟨g, 0, none⟩)] #[], .pointer (some ⟨g2, 3, none⟩)] (slT_of (z := 3) (b := 24) (by kernel_rfl)) (by rfl) rfl (by omega) (by simp [Value.cells]) (by simp [Value.cells]) (by omega) fun g3 hg3 => ?_
  have hg3' : w.heap.size ≤ g3 := by obtain ⟨_, _, h, _⟩ := hg3; exact h
  have n3 : g ≠ g3 := by omega
  have n3' : g2 ≠ g3 := by omega
  simp -implicitDefEqProofs (disch := omega) only [go_sem]
  refine RLoop_intro (fun ff h => ∃ (i : Nat) (e n t : List UInt8) (q : Nat) (sh : Bool), i ≤ 3 ∧ Gz.Prog s f p i e n t q sh ∧ ff 1 = .int .i64 (f : Int) ∧ ff 26 = .slice (some ⟨g3, 0, none⟩) 3 3 ∧ ff 27 = .int .i64 3 ∧ ff 28 = .int .i64 (i : Int) ∧
    h = [.cells g3 96 #[.int .i64 4, .func (.func 58) #[.pointer (some ⟨g, 0, none⟩)] #[], .pointer (some ⟨g2, 1, none⟩), .int .i64 8, .func (.func 59) #[.pointer (some ⟨g, 0, none⟩)] #[], .pointer (some ⟨g2, 2, none⟩), .int .i64 16, .func (.func 59) #[.pointer (some ⟨g, 0, none⟩)] #[], .pointer (some ⟨g2, 3, none⟩)], .cells g 82 #[str s, .int .i64 (q : Int), .bool sh], .cells g2 49 #[.int .i64 tm, str e, str n, str t, .int .i64 lv, .int .i64 os, .bool tx, .bool sm, .int .i64 fl], .anchor w [g, g2]]) (fun ff _ => (3 - ival (ff 28)).toNat) ?_ ?_
  · exact ⟨0, [], [], [], p, false, by omega, ⟨⟨Nat.le_refl _, hp⟩, rfl, rfl, rfl, rfl⟩, by (first | (simp -implicitDefEqProofs (disch := omega) only [go_sem]; done) | (simp -implicitDefEqProofs (disch := omega) only [go_sem]; rfl)), by (first | (simp -implicitDefEqProofs (disch := omega) only [go_sem]; done) | (simp -implicitDefEqProofs (disch := omega) only [go_sem]; rfl)), by (first | (simp -implicitDefEqProofs (disch := omega) only [go_sem]; done) | (simp -implicitDefEqProofs (disch := omega) only [go_sem]; rfl)), by (first | (simp -implicitDefEqProofs (disch := omega) only [go_sem]; done) | (simp -implicitDefEqProofs (disch := omega) only [go_sem]; rfl)), rfl⟩
  rintro ff h ⟨i, e, n, t, q, sh, hi, hprog, e1, e26, e27, e28, rfl⟩ Q' hQ'
  have hle := prog_le hprog
  obtain rfl | rfl | rfl | rfl : i = 0 ∨ i = 1 ∨ i = 2 ∨ i = 3 := by omega
  · have hz : decide (bits BinOp.and IntKind.i64 (f : Int) 4 = 0) = !Gz.has f 4 := and_zero hf 4 (by omega)
    simp -implicitDefEqProofs (disch := omega) only [go_sem, e1, e26, e27, e28, Int.cast_ofNat_Int, Nat.reduceMul, decide_true]
    refine RNew_intro fun g4 hg4 => ?_
    have hg4' : g3 < g4 := hg4.1
    have n4 : g4 ≠ g3 := by omega
    have n5 : g ≠ g4 := by omega
    have n6 : g2 ≠ g4 := by omega
    have n7 : g4 ≠ g := by omega
    have n8 : g4 ≠ g2 := by omega
    cases hhas : Gz.has f 4 with
    | false =>
      rw [hhas] at hz
      simp -implicitDefEqProofs (disch := omega) only [go_sem, e1, e26, e27, e28, hz]
      refine hQ' _ _ _ (fun _ h => h.2.2.2) ⟨1, e, n, t, q, sh, by omega, prog_skip0 hhas hprog, by (first | (simp -implicitDefEqProofs (disch := omega) only [go_sem, e1, e26, e27, e28]; done) | (simp -implicitDefEqProofs (disch := omega) only [go_sem, e1, e26, e27, e28]; rfl)), by (first | (simp -implicitDefEqProofs (disch := omega) only [go_sem, e1, e26, e27, e28]; done) | (simp -implicitDefEqProofs (disch := omega) only [go_sem, e1, e26, e27, e28]; rfl)), by (first | (simp -implicitDefEqProofs (disch := omega) only [go_sem, e1, e26, e27, e28]; done) | (simp -implicitDefEqProofs (disch := omega) only [go_sem, e1, e26, e27, e28]; rfl)), by (first | (simp -implicitDefEqProofs (disch := omega) only [go_sem, e1, e26, e27, e28]; done) | (simp -implicitDefEqProofs (disch := omega) only [go_sem, e1, e26, e27, e28]; rfl)), rfl⟩ ?_
      simp -implicitDefEqProofs (disch := omega) only [go_sem, e1, e26, e27, e28]; decide
    | true =>
      rw [hhas] at hz
      simp -implicitDefEqProofs (disch := omega) only [go_sem, e1, e26, e27, e28, hz]
      refine RDraw_seg (by kernel_rfl) (by kernel_rfl) 7 rfl ?_
      refine RS_cutR [0, 2, 3] [1, 4, 5, 6] (by decide +kernel) ?_
      refine RS_det (by kernel_rfl) ?_
      repeat (first | refine ToO_step (fun Q hq => by (simp -implicitDefEqProofs (disch := omega) only [go_sem]; exact hq)) ?_ | refine ToO_guard (by (simp -implicitDefEqProofs only [go_sem]; first | done | fail)) (fun Q hq => by (simp -implicitDefEqProofs (disch := omega) only [go_sem]; exact hq)) ?_ | refine ToO_skip (.inl (by (simp -implicitDefEqProofs only [go_sem]; first | done | fail))) ?_ | refine ToO_skip (.inr (by (simp -implicitDefEqProofs only [go_sem]; first | done | fail))) ?_)
      refine ToO_nil ?_
      refine RS_first [1, 4] (by kernel_rfl) ⟨?_, ?_, trivial⟩
      · simp -implicitDefEqProofs (disch := omega) only [go_sem]
        refine RS_cutR [5] [4, 6] (by decide +kernel) ?_
        refine RS_det (by kernel_rfl) ?_
        repeat (first | refine ToO_step (fun Q hq => by (simp -implicitDefEqProofs (disch := omega) only [go_sem]; exact hq)) ?_ | refine ToO_guard (by (simp -implicitDefEqProofs only [go_sem]; first | done | fail)) (fun Q hq => by (simp -implicitDefEqProofs (disch := omega) only [go_sem]; exact hq)) ?_ | refine ToO_skip (.inl (by (simp -implicitDefEqProofs only [go_sem]; first | done | fail))) ?_ | refine ToO_skip (.inr (by (simp -implicitDefEqProofs only [go_sem]; first | done | fail))) ?_)
        refine ToO_nil ?_
        refine RS_text (by kernel_rfl) ?_
        simp -implicitDefEqProofs (disch := omega) only [go_sem]
        refine RCall_mut [_, _] _ rfl (fun w1 hs => gz_text s hsl q sh hle.2 g w1 (hs.row (by simp))) ?_
        intro v cs hgot
        obtain ⟨x, q', sh', rfl, rfl, hprog'⟩ := prog_got0 hhas hprog hgot
        simp -implicitDefEqProofs (disch := omega) only [go_sem, e1, e26, e27, e28]
        refine hQ' _ _ _ (fun _ h => h.2.2.2) ⟨1, x, n, t, q', sh', by omega, hprog', by (first | (simp -implicitDefEqProofs (disch := omega) only [go_sem, e1, e26, e27, e28]; done) | (simp -implicitDefEqProofs (disch := omega) only [go_sem, e1, e26, e27, e28]; rfl)), by (first | (simp -implicitDefEqProofs (disch := omega) only [go_sem, e1, e26, e27, e28]; done) | (simp -implicitDefEqProofs (disch := omega) only [go_sem, e1, e26, e27, e28]; rfl)), by (first | (simp -implicitDefEqProofs (disch := omega) only [go_sem, e1, e26, e27, e28]; done) | (simp -implicitDefEqProofs (disch := omega) only [go_sem, e1, e26, e27, e28]; rfl)), by (first | (simp -implicitDefEqProofs (disch := omega) only [go_sem, e1, e26, e27, e28]; done) | (simp -implicitDefEqProofs (disch := omega) only [go_sem, e1, e26, e27, e28]; rfl)), rfl⟩ ?_
        simp -implicitDefEqProofs (disch := omega) only [go_sem, e1, e26, e27, e28]; decide
      · simp -implicitDefEqProofs (disch := omega) only [go_sem]
        refine RCall_mut [_, _] _ rfl (fun w1 hs => gz_text s hsl q sh hle.2 g w1 (hs.row (by simp))) ?_
        intro v cs hgot
        obtain ⟨x, q', sh', rfl, rfl, hprog'⟩ := prog_got0 hhas hprog hgot
        simp -implicitDefEqProofs (disch := omega) only [go_sem]
        refine RS_text (L := [1, 5, 6]) (by kernel_rfl) ?_
        simp -implicitDefEqProofs (disch := omega) only [go_sem, e1, e26, e27, e28]
        refine hQ' _ _ _ (fun _ h => h.2.2.2) ⟨1, x, n, t, q', sh', by omega, hprog', by (first | (simp -implicitDefEqProofs (disch := omega) only [go_sem, e1, e26, e27, e28]; done) | (simp -implicitDefEqProofs (disch := omega) only [go_sem, e1, e26, e27, e28]; rfl)), by (first | (simp -implicitDefEqProofs (disch := omega) only [go_sem, e1, e26, e27, e28]; done) | (simp -implicitDefEqProofs (disch := omega) only [go_sem, e1, e26, e27, e28]; rfl)), by (first | (simp -implicitDefEqProofs (disch := omega) only [go_sem, e1, e26, e27, e28]; done) | (simp -implicitDefEqProofs (disch := omega) only [go_sem, e1, e26, e27, e28]; rfl)), by (first | (simp -implicitDefEqProofs (disch := omega) only [go_sem, e1, e26, e27, e28]; done) | (simp -implicitDefEqProofs (disch := omega) only [go_sem, e1, e26, e27, e28]; rfl)), rfl⟩ ?_
        simp -implicitDefEqProofs (disch := omega) only [go_sem, e1, e26, e27, e28]; decide
  · have hz : decide (bits BinOp.and IntKind.i64 (f : Int) 8 = 0) = !Gz.has f 8 := and_zero hf 8 (by omega)
    simp -implicitDefEqProofs (disch := omega) only [go_sem, e1, e26, e27, e28, Int.cast_ofNat_Int, Nat.reduceMul, decide_true]
    refine RNew_intro fun g4 hg4 => ?_
    have hg4' : g3 < g4 := hg4.1
    have n4 : g4 ≠ g3 := by omega
    have n5 : g ≠ g4 := by omega
    have n6 : g2 ≠ g4 := by omega
    have n7 : g4 ≠ g := by omega
    have n8 : g4 ≠ g2 := by omega
    cases hhas : Gz.has f 8 with
    | false =>
      rw [hhas] at hz
      simp -implicitDefEqProofs (disch := omega) only [go_sem, e1, e26, e27, e28, hz]
      refine hQ' _ _ _ (fun _ h => h.2.2.2) ⟨2, e, n, t, q, sh, by omega, prog_skip1 hhas hprog, by (first | (simp -implicitDefEqProofs (disch := omega) only [go_sem, e1, e26, e27, e28]; done) | (simp -implicitDefEqProofs (disch := omega) only [go_sem, e1, e26, e27, e28]; rfl)), by (first | (simp -implicitDefEqProofs (disch := omega) only [go_sem, e1, e26, e27, e28]; done) | (simp -implicitDefEqProofs (disch := omega) only [go_sem, e1, e26, e27, e28]; rfl)), by (first | (simp -implicitDefEqProofs (disch := omega) only [go_sem, e1, e26, e27, e28]; done) | (simp -implicitDefEqProofs (disch := omega) only [go_sem, e1, e26, e27, e28]; rfl)), by (first | (simp -implicitDefEqProofs (disch := omega) only [go_sem, e1, e26, e27, e28]; done) | (simp -implicitDefEqProofs (disch := omega) only [go_sem, e1, e26, e27, e28]; rfl)), rfl⟩ ?_
      simp -implicitDefEqProofs (disch := omega) only [go_sem, e1, e26, e27, e28]; decide
    | true =>
      rw [hhas] at hz
      simp -implicitDefEqProofs (disch := omega) only [go_sem, e1, e26, e27, e28, hz]
      refine RDraw_seg (by kernel_rfl) (by kernel_rfl) 7 rfl ?_
      refine RS_cutR [0, 2, 3] [1, 4, 5, 6] (by decide +kernel) ?_
      refine RS_det (by kernel_rfl) ?_
      repeat (first | refine ToO_step (fun Q hq => by (simp -implicitDefEqProofs (disch := omega) only [go_sem]; exact hq)) ?_ | refine ToO_guard (by (simp -implicitDefEqProofs only [go_sem]; first | done | fail)) (fun Q hq => by (simp -implicitDefEqProofs (disch := omega) only [go_sem]; exact hq)) ?_ | refine ToO_skip (.inl (by (simp -implicitDefEqProofs only [go_sem]; first | done | fail))) ?_ | refine ToO_skip (.inr (by (simp -implicitDefEqProofs only [go_sem]; first | done | fail))) ?_)
      refine ToO_nil ?_
      refine RS_first [1, 4] (by kernel_rfl) ⟨?_, ?_, trivial⟩
      · simp -implicitDefEqProofs (disch := omega) only [go_sem]
        refine RS_cutR [5] [4, 6] (by decide +kernel) ?_
        refine RS_det (by kernel_rfl) ?_
        repeat (first | refine ToO_step (fun Q hq => by (simp -implicitDefEqProofs (disch := omega) only [go_sem]; exact hq)) ?_ | refine ToO_guard (by (simp -implicitDefEqProofs only [go_sem]; first | done | fail)) (fun Q hq => by (simp -implicitDefEqProofs (disch := omega) only [go_sem]; exact hq)) ?_ | refine ToO_skip (.inl (by (simp -implicitDefEqProofs only [go_sem]; first | done | fail))) ?_ | refine ToO_skip (.inr (by (simp -implicitDefEqProofs only [go_sem]; first | done | fail))) ?_)
        refine ToO_nil ?_
        refine RS_text (by kernel_rfl) ?_
        simp -implicitDefEqProofs (disch := omega) only [go_sem]
        refine RCall_mut [_, _] _ rfl (fun w1 hs => gz_ended s hsl q sh hle.2 g w1 (hs.row (by simp))) ?_
        intro v cs hgot
        obtain ⟨x, q', sh', rfl, rfl, hprog'⟩ := prog_got1 hhas hprog hgot
        simp -implicitDefEqProofs (disch := omega) only [go_sem, e1, e26, e27, e28]
        refine hQ' _ _ _ (fun _ h => h.2.2.2) ⟨2, e, x, t, q', sh', by omega, hprog', by (first | (simp -implicitDefEqProofs (disch := omega) only [go_sem, e1, e26, e27, e28]; done) | (simp -implicitDefEqProofs (disch := omega) only [go_sem, e1, e26, e27, e28]; rfl)), by (first | (simp -implicitDefEqProofs (disch := omega) only [go_sem, e1, e26, e27, e28]; done) | (simp -implicitDefEqProofs (disch := omega) only [go_sem, e1, e26, e27, e28]; rfl)), by (first | (simp -implicitDefEqProofs (disch := omega) only [go_sem, e1, e26, e27, e28]; done) | (simp -implicitDefEqProofs (disch := omega) only [go_sem, e1, e26, e27, e28]; rfl)), by (first | (simp -implicitDefEqProofs (disch := omega) only [go_sem, e1, e26, e27, e28]; done) | (simp -implicitDefEqProofs (disch := omega) only [go_sem, e1, e26, e27, e28]; rfl)), rfl⟩ ?_
        simp -implicitDefEqProofs (disch := omega) only [go_sem, e1, e26, e27, e28]; decide
      · simp -implicitDefEqProofs (disch := omega) only [go_sem]
        refine RCall_mut [_, _] _ rfl (fun w1 hs => gz_ended s hsl q sh hle.2 g w1 (hs.row (by simp))) ?_
        intro v cs hgot
        obtain ⟨x, q', sh', rfl, rfl, hprog'⟩ := prog_got1 hhas hprog hgot
        simp -implicitDefEqProofs (disch := omega) only [go_sem]
        refine RS_text (L := [1, 5, 6]) (by kernel_rfl) ?_
        simp -implicitDefEqProofs (disch := omega) only [go_sem, e1, e26, e27, e28]
        refine hQ' _ _ _ (fun _ h => h.2.2.2) ⟨2, e, x, t, q', sh', by omega, hprog', by (first | (simp -implicitDefEqProofs (disch := omega) only [go_sem, e1, e26, e27, e28]; done) | (simp -implicitDefEqProofs (disch := omega) only [go_sem, e1, e26, e27, e28]; rfl)), by (first | (simp -implicitDefEqProofs (disch := omega) only [go_sem, e1, e26, e27, e28]; done) | (simp -implicitDefEqProofs (disch := omega) only [go_sem, e1, e26, e27, e28]; rfl)), by (first | (simp -implicitDefEqProofs (disch := omega) only [go_sem, e1, e26, e27, e28]; done) | (simp -implicitDefEqProofs (disch := omega) only [go_sem, e1, e26, e27, e28]; rfl)), by (first | (simp -implicitDefEqProofs (disch := omega) only [go_sem, e1, e26, e27, e28]; done) | (simp -implicitDefEqProofs (disch := omega) only [go_sem, e1, e26, e27, e28]; rfl)), rfl⟩ ?_
        simp -implicitDefEqProofs (disch := omega) only [go_sem, e1, e26, e27, e28]; decide
  · have hz : decide (bits BinOp.and IntKind.i64 (f : Int) 16 = 0) = !Gz.has f 16 := and_zero hf 16 (by omega)
    simp -implicitDefEqProofs (disch := omega) only [go_sem, e1, e26, e27, e28, Int.cast_ofNat_Int, Nat.reduceMul, decide_true]
    refine RNew_intro fun g4 hg4 => ?_
    have hg4' : g3 < g4 := hg4.1
    have n4 : g4 ≠ g3 := by omega
    have n5 : g ≠ g4 := by omega
    have n6 : g2 ≠ g4 := by omega
    have n7 : g4 ≠ g := by omega
    have n8 : g4 ≠ g2 := by omega
    cases hhas : Gz.has f 16 with
    | false =>
      rw [hhas] at hz
      simp -implicitDefEqProofs (disch := omega) only [go_sem, e1, e26, e27, e28, hz]
      refine hQ' _ _ _ (fun _ h => h.2.2.2) ⟨3, e, n, t, q, sh, by omega, prog_skip2 hhas hprog, by (first | (simp -implicitDefEqProofs (disch := omega) only [go_sem, e1, e26, e27, e28]; done) | (simp -implicitDefEqProofs (disch := omega) only [go_sem, e1, e26, e27, e28]; rfl)), by (first | (simp -implicitDefEqProofs (disch := omega) only [go_sem, e1, e26, e27, e28]; done) | (simp -implicitDefEqProofs (disch := omega) only [go_sem, e1, e26, e27, e28]; rfl)), by (first | (simp -implicitDefEqProofs (disch := omega) only [go_sem, e1, e26, e27, e28]; done) | (simp -implicitDefEqProofs (disch := omega) only [go_sem, e1, e26, e27, e28]; rfl)), by (first | (simp -implicitDefEqProofs (disch := omega) only [go_sem, e1, e26, e27, e28]; done) | (simp -implicitDefEqProofs (disch := omega) only [go_sem, e1, e26, e27, e28]; rfl)), rfl⟩ ?_
      simp -implicitDefEqProofs (disch := omega) only [go_sem, e1, e26, e27, e28]; decide
    | true =>
      rw [hhas] at hz
      simp -implicitDefEqProofs (disch := omega) only [go_sem, e1, e26, e27, e28, hz]
      refine RDraw_seg (by kernel_rfl) (by kernel_rfl) 7 rfl ?_
      refine RS_cutR [0, 2, 3] [1, 4, 5, 6] (by decide +kernel) ?_
      refine RS_det (by kernel_rfl) ?_
      repeat (first | refine ToO_step (fun Q hq => by (simp -implicitDefEqProofs (disch := omega) only [go_sem]; exact hq)) ?_ | refine ToO_guard (by (simp -implicitDefEqProofs only [go_sem]; first | done | fail)) (fun Q hq => by (simp -implicitDefEqProofs (disch := omega) only [go_sem]; exact hq)) ?_ | refine ToO_skip (.inl (by (simp -implicitDefEqProofs only [go_sem]; first | done | fail))) ?_ | refine ToO_skip (.inr (by (simp -implicitDefEqProofs only [go_sem]; first | done | fail))) ?_)
      refine ToO_nil ?_
      refine RS_first [1, 4] (by kernel_rfl) ⟨?_, ?_, trivial⟩
      · simp -implicitDefEqProofs (disch := omega) only [go_sem]
        refine RS_cutR [5] [4, 6] (by decide +kernel) ?_
        refine RS_det (by kernel_rfl) ?_
        repeat (first | refine ToO_step (fun Q hq => by (simp -implicitDefEqProofs (disch := omega) only [go_sem]; exact hq)) ?_ | refine ToO_guard (by (simp -implicitDefEqProofs only [go_sem]; first | done | fail)) (fun Q hq => by (simp -implicitDefEqProofs (disch := omega) only [go_sem]; exact hq)) ?_ | refine ToO_skip (.inl (by (simp -implicitDefEqProofs only [go_sem]; first | done | fail))) ?_ | refine ToO_skip (.inr (by (simp -implicitDefEqProofs only [go_sem]; first | done | fail))) ?_)
        refine ToO_nil ?_
        refine RS_text (by kernel_rfl) ?_
        simp -implicitDefEqProofs (disch := omega) only [go_sem]
        refine RCall_mut [_, _] _ rfl (fun w1 hs => gz_ended s hsl q sh hle.2 g w1 (hs.row (by simp))) ?_
        intro v cs hgot
        obtain ⟨x, q', sh', rfl, rfl, hprog'⟩ := prog_got2 hhas hprog hgot
        simp -implicitDefEqProofs (disch := omega) only [go_sem, e1, e26, e27, e28]
        refine hQ' _ _ _ (fun _ h => h.2.2.2) ⟨3, e, n, x, q', sh', by omega, hprog', by (first | (simp -implicitDefEqProofs (disch := omega) only [go_sem, e1, e26, e27, e28]; done) | (simp -implicitDefEqProofs (disch := omega) only [go_sem, e1, e26, e27, e28]; rfl)), by (first | (simp -implicitDefEqProofs (disch := omega) only [go_sem, e1, e26, e27, e28]; done) | (simp -implicitDefEqProofs (disch := omega) only [go_sem, e1, e26, e27, e28]; rfl)), by (first | (simp -implicitDefEqProofs (disch := omega) only [go_sem, e1, e26, e27, e28]; done) | (simp -implicitDefEqProofs (disch := omega) only [go_sem, e1, e26, e27, e28]; rfl)), by (first | (simp -implicitDefEqProofs (disch := omega) only [go_sem, e1, e26, e27, e28]; done) | (simp -implicitDefEqProofs (disch := omega) only [go_sem, e1, e26, e27, e28]; rfl)), rfl⟩ ?_
        simp -implicitDefEqProofs (disch := omega) only [go_sem, e1, e26, e27, e28]; decide
      · simp -implicitDefEqProofs (disch := omega) only [go_sem]
        refine RCall_mut [_, _] _ rfl (fun w1 hs => gz_ended s hsl q sh hle.2 g w1 (hs.row (by simp))) ?_
        intro v cs hgot
        obtain ⟨x, q', sh', rfl, rfl, hprog'⟩ := prog_got2 hhas hprog hgot
        simp -implicitDefEqProofs (disch := omega) only [go_sem]
        refine RS_text (L := [1, 5, 6]) (by kernel_rfl) ?_
        simp -implicitDefEqProofs (disch := omega) only [go_sem, e1, e26, e27, e28]
        refine hQ' _ _ _ (fun _ h => h.2.2.2) ⟨3, e, n, x, q', sh', by omega, hprog', by (first | (simp -implicitDefEqProofs (disch := omega) only [go_sem, e1, e26, e27, e28]; done) | (simp -implicitDefEqProofs (disch := omega) only [go_sem, e1, e26, e27, e28]; rfl)), by (first | (simp -implicitDefEqProofs (disch := omega) only [go_sem, e1, e26, e27, e28]; done) | (simp -implicitDefEqProofs (disch := omega) only [go_sem, e1, e26, e27, e28]; rfl)), by (first | (simp -implicitDefEqProofs (disch := omega) only [go_sem, e1, e26, e27, e28]; done) | (simp -implicitDefEqProofs (disch := omega) only [go_sem, e1, e26, e27, e28]; rfl)), by (first | (simp -implicitDefEqProofs (disch := omega) only [go_sem, e1, e26, e27, e28]; done) | (simp -implicitDefEqProofs (disch := omega) only [go_sem, e1, e26, e27, e28]; rfl)), rfl⟩ ?_
        simp -implicitDefEqProofs (disch := omega) only [go_sem, e1, e26, e27, e28]; decide
  · simp -implicitDefEqProofs (disch := omega) only [go_sem, e1, e26, e27, e28, Int.cast_ofNat_Int, decide_false]
    exact hQ _ _ fun w' hs => ⟨_, hs.2.2.2, e, n, t, q, sh, rfl, hprog, rfl⟩
end Go.Proofs.Ytlmbebnpnnkhmaa
