/- gzhead: the walks: reading numbers and texts. -/
import Derived.Test.YtlmbebnpnnkhmaaGzD
namespace Go.Proofs.Ytlmbebnpnnkhmaa
set_option linter.unusedSimpArgs false
set_option linter.unusedVariables false
open H
/-- Whether so many bytes can still be read. -/
def Gz.can (s : List UInt8) (p : Nat) (sh : Bool) (wd : Nat) : Bool := !sh && decide (p + wd ≤ s.length)
theorem number_can (s : List UInt8) (p wd : Nat) (hw : wd = 1 ∨ wd = 2 ∨ wd = 4) (hp : p ≤ s.length) :
    Vint.number s (p : Int) (wd : Int) = if p + wd ≤ s.length then ((Vint.numS s p wd : Int), 0) else (0, 2) := by
  unfold Vint.number
  have h1 : ¬ (¬ Vint.wide (wd : Int) ∨ (p : Int) < 0) := by unfold Vint.wide; omega
  rw [if_neg h1]
  have h2 := Vint.numS_lt s p wd
  have h3 : 256 ^ wd ≤ 4294967296 := by rcases hw with rfl | rfl | rfl <;> decide
  by_cases h : p + wd ≤ s.length
  · rw [if_neg (by omega), if_pos h, Int.toNat_natCast, Int.toNat_natCast, if_neg (by omega)]
  · rw [if_pos (by omega), if_neg h]
set_option maxRecDepth 20000 in
set_option maxHeartbeats 4000000 in
theorem gz_num (s : List UInt8) (hsl : s.length ≤ 4611686018427387904) (p : Nat) (sh : Bool) (wd : Nat) (hw : wd = 1 ∨ wd = 2 ∨ wd = 4) (hp : p ≤ s.length) (g : Nat) (w : World) (hr : Row w g 82 #[str s, .int .i64 (p : Int), .bool sh] ∧ g < w.heap.size) :
    Does Try.prog 49 #[.pointer (some ⟨g, 0, none⟩), .int .i64 (wd : Int)] w fun v w' => ∃ cs', Row w' g 82 cs' ∧ Ext [g] w w' ∧
      (v = .int .i64 (if Gz.can s p sh wd then (Vint.numS s p wd : Int) else 0) ∧ cs' = #[str s, .int .i64 ((if Gz.can s p sh wd then p + wd else p : Nat) : Int), .bool (!Gz.can s p sh wd)]) := by
  have hnum := number_can s p wd hw hp
  have hwd : (wd : Int) ≤ 4 := by omega
  refine does (args := [.pointer (some ⟨g, 0, none⟩), .int .i64 (wd : Int)]) Try.func49 rfl (by kernel_rfl) (by kernel_rfl) rfl ent_49 (Sat.one hr.1 hr.2) ?_; intro QV hQ
  simp -implicitDefEqProofs (disch := omega) only [go_sem]
  refine RDraw_to 15 (by kernel_rfl) (by kernel_rfl) (by kernel_rfl) ?_
  repeat (first | refine Tr_step (fun Q hq => by (simp -implicitDefEqProofs (disch := omega) only [go_sem]; exact hq)) ?_ | refine Tr_guard (by (simp -implicitDefEqProofs only [go_sem]; first | done | fail)) (fun Q hq => by (simp -implicitDefEqProofs (disch := omega) only [go_sem]; exact hq)) ?_ | refine Tr_skip (.inl (by (simp -implicitDefEqProofs only [go_sem]; first | done | fail))) ?_ | refine Tr_skip (.inr (by (simp -implicitDefEqProofs only [go_sem]; first | done | fail))) ?_)
  first | refine Tr_step (fun Q hq => by (simp -implicitDefEqProofs (disch := omega) only [go_sem]; refine RCall_eq (vint_number s (by omega) (p : Int) (wd : Int) (by omega)) ?_; simp -implicitDefEqProofs (disch := omega) only [go_sem]; exact hq)) ?_ | refine Tr_guard (by (simp -implicitDefEqProofs only [go_sem]; first | done | fail)) (fun Q hq => by (simp -implicitDefEqProofs (disch := omega) only [go_sem]; refine RCall_eq (vint_number s (by omega) (p : Int) (wd : Int) (by omega)) ?_; simp -implicitDefEqProofs (disch := omega) only [go_sem]; exact hq)) ?_
  repeat (first | refine Tr_step (fun Q hq => by (simp -implicitDefEqProofs (disch := omega) only [go_sem]; exact hq)) ?_ | refine Tr_guard (by (simp -implicitDefEqProofs only [go_sem]; first | done | fail)) (fun Q hq => by (simp -implicitDefEqProofs (disch := omega) only [go_sem]; exact hq)) ?_ | refine Tr_skip (.inl (by (simp -implicitDefEqProofs only [go_sem]; first | done | fail))) ?_ | refine Tr_skip (.inr (by (simp -implicitDefEqProofs only [go_sem]; first | done | fail))) ?_)
  refine To_nil ?_
  rw [hnum]
  have hc : Gz.can s p sh wd = (!sh && decide (p + wd ≤ s.length)) := rfl
  cases sh with
  | true =>
    rw [Bool.not_true, Bool.false_and] at hc
    rw [hc] at hQ
    simp -implicitDefEqProofs (disch := omega) only [go_sem]
    exact hQ _ _ fun w' hs => ⟨_, (hs.row (by simp)).1, hs.anchor (by simp), rfl, rfl⟩
  | false =>
    by_cases h : p + wd ≤ s.length
    · rw [decide_eq_true h] at hc
      rw [hc] at hQ
      rw [if_pos h]
      simp -implicitDefEqProofs (disch := omega) only [go_sem]
      exact hQ _ _ fun w' hs => ⟨_, (hs.row (by simp)).1, hs.anchor (by simp), rfl, rfl⟩
    · rw [decide_eq_false h] at hc
      rw [hc] at hQ
      rw [if_neg h]
      simp -implicitDefEqProofs (disch := omega) only [go_sem]
      exact hQ _ _ fun w' hs => ⟨_, (hs.row (by simp)).1, hs.anchor (by simp), rfl, rfl⟩
/-- What a reader hands back, and leaves. -/
def Gz.Got (t : List UInt8 → Nat → Option (List UInt8 × Nat)) (s : List UInt8) (p : Nat) (sh : Bool) (v : Value) (cs : Array Value) : Prop :=
  (∃ e q, sh = false ∧ t s p = some (e, q) ∧ v = str e ∧ cs = #[str s, .int .i64 (q : Int), .bool false]) ∨
  ((sh = true ∨ t s p = none) ∧ v = str [] ∧ ∃ p' : Nat, p ≤ p' ∧ p' ≤ s.length ∧ cs = #[str s, .int .i64 (p' : Int), .bool true])
set_option maxRecDepth 20000 in
set_option maxHeartbeats 4000000 in
theorem gz_text (s : List UInt8) (hsl : s.length ≤ 4611686018427387904) (p : Nat) (sh : Bool) (hp : p ≤ s.length) (g : Nat) (w : World) (hr : Row w g 82 #[str s, .int .i64 (p : Int), .bool sh] ∧ g < w.heap.size) :
    Does Try.prog 58 #[.pointer (some ⟨g, 0, none⟩)] w fun v w' => ∃ cs', Row w' g 82 cs' ∧ Ext [g] w w' ∧ Gz.Got Gz.takeX s p sh v cs' := by
  refine does (args := [.pointer (some ⟨g, 0, none⟩)]) Try.func58 rfl (by kernel_rfl) (by kernel_rfl) rfl ent_58 (Sat.one hr.1 hr.2) ?_; intro QV hQ
  simp -implicitDefEqProofs (disch := omega) only [go_sem]
  refine RCall_mut [] _ rfl (fun w1 hs => gz_num s hsl p sh 2 (by omega) hp g w1 (hs.row (by simp))) ?_
  rintro _ _ ⟨rfl, rfl⟩
  have hn := Vint.numS_lt s p 2
  cases hc : Gz.can s p sh 2 with
  | false =>
    have hnone : sh = true ∨ Gz.takeX s p = none := by
      unfold Gz.can at hc
      cases sh
      · right
        unfold Gz.takeX
        rw [Bool.not_false, Bool.true_and, decide_eq_false_iff_not] at hc
        rw [if_neg (by omega)]
      · exact .inl rfl
    simp -implicitDefEqProofs (disch := omega) only [go_sem]
    refine RDraw_to 21 (by kernel_rfl) (by kernel_rfl) (by kernel_rfl) ?_
    repeat (first | refine Tr_step (fun Q hq => by (simp -implicitDefEqProofs (disch := omega) only [go_sem]; exact hq)) ?_ | refine Tr_guard (by (simp -implicitDefEqProofs only [go_sem]; first | done | fail)) (fun Q hq => by (simp -implicitDefEqProofs (disch := omega) only [go_sem]; exact hq)) ?_ | refine Tr_skip (.inl (by (simp -implicitDefEqProofs only [go_sem]; first | done | fail))) ?_ | refine Tr_skip (.inr (by (simp -implicitDefEqProofs only [go_sem]; first | done | fail))) ?_)
    refine To_nil ?_
    simp -implicitDefEqProofs (disch := omega) only [go_sem]
    exact hQ _ _ fun w' hs => ⟨_, (hs.row (by simp)).1, hs.anchor (by simp), .inr ⟨hnone, rfl, p, Nat.le_refl _, hp, rfl⟩⟩
  | true =>
    unfold Gz.can at hc
    rw [Bool.and_eq_true, decide_eq_true_eq] at hc
    obtain ⟨hsh, hp2⟩ := hc
    have hsh' : sh = false := by simpa using hsh
    subst hsh'
    have htk : Gz.takeX s p = if p + 2 + Vint.numS s p 2 ≤ s.length then some ((s.drop (p + 2)).take (Vint.numS s p 2), p + 2 + Vint.numS s p 2) else none := rfl
    generalize Vint.numS s p 2 = n at *
    by_cases h : p + 2 + n ≤ s.length
    · rw [if_pos h] at htk
      have h1 : decide ((s.length : Int) - ((p + 2 : Nat) : Int) < (n : Int)) = false := decide_eq_false (by omega)
      simp -implicitDefEqProofs (disch := omega) only [go_sem]
      refine RDraw_to 21 (by kernel_rfl) (by kernel_rfl) (by kernel_rfl) ?_
      repeat (first | refine Tr_step (fun Q hq => by (simp -implicitDefEqProofs (disch := omega) only [go_sem, h1]; exact hq)) ?_ | refine Tr_guard (by (simp -implicitDefEqProofs only [go_sem, h1]; first | done | fail)) (fun Q hq => by (simp -implicitDefEqProofs (disch := omega) only [go_sem, h1]; exact hq)) ?_ | refine Tr_skip (.inl (by (simp -implicitDefEqProofs only [go_sem, h1]; first | done | fail))) ?_ | refine Tr_skip (.inr (by (simp -implicitDefEqProofs only [go_sem, h1]; first | done | fail))) ?_)
      refine To_nil ?_
      simp -implicitDefEqProofs (disch := omega) only [go_sem]
      refine RDraw_to 15 (by kernel_rfl) (by kernel_rfl) (by kernel_rfl) ?_
      repeat (first | refine Tr_step (fun Q hq => by (simp -implicitDefEqProofs (disch := omega) only [go_sem]; exact hq)) ?_ | refine Tr_guard (by (simp -implicitDefEqProofs only [go_sem]; first | done | fail)) (fun Q hq => by (simp -implicitDefEqProofs (disch := omega) only [go_sem]; exact hq)) ?_ | refine Tr_skip (.inl (by (simp -implicitDefEqProofs only [go_sem]; first | done | fail))) ?_ | refine Tr_skip (.inr (by (simp -implicitDefEqProofs only [go_sem]; first | done | fail))) ?_)
      refine To_nil ?_
      simp -implicitDefEqProofs (disch := omega) only [go_sem]
      refine hQ _ _ fun w' hs => ⟨#[str s, .int .i64 (((p + 2 : Nat) : Int) + (n : Int)), .bool false], (hs.row (by simp)).1, hs.anchor (by simp), .inl ⟨_, _, rfl, htk, ?_, ?_⟩⟩
      · have a1 : (((p + 2 : Nat) : Int) + (n : Int) - (n : Int)).toNat = p + 2 := by omega
        have a2 : (((p + 2 : Nat) : Int) + (n : Int)).toNat - (p + 2) = n := by omega
        rw [a1, a2]
      · rw [Int.natCast_add (p + 2) n]
    · rw [if_neg h] at htk
      have h1 : decide ((s.length : Int) - ((p + 2 : Nat) : Int) < (n : Int)) = true := decide_eq_true (by omega)
      simp -implicitDefEqProofs (disch := omega) only [go_sem]
      refine RDraw_to 21 (by kernel_rfl) (by kernel_rfl) (by kernel_rfl) ?_
      repeat (first | refine Tr_step (fun Q hq => by (simp -implicitDefEqProofs (disch := omega) only [go_sem, h1]; exact hq)) ?_ | refine Tr_guard (by (simp -implicitDefEqProofs only [go_sem, h1]; first | done | fail)) (fun Q hq => by (simp -implicitDefEqProofs (disch := omega) only [go_sem, h1]; exact hq)) ?_ | refine Tr_skip (.inl (by (simp -implicitDefEqProofs only [go_sem, h1]; first | done | fail))) ?_ | refine Tr_skip (.inr (by (simp -implicitDefEqProofs only [go_sem, h1]; first | done | fail))) ?_)
      refine To_nil ?_
      simp -implicitDefEqProofs (disch := omega) only [go_sem]
      exact hQ _ _ fun w' hs => ⟨_, (hs.row (by simp)).1, hs.anchor (by simp), .inr ⟨.inr htk, rfl, p + 2, by omega, hp2, rfl⟩⟩
theorem zs_step {s : List UInt8} {i : Nat} (hi : i < s.length) : Gz.zs s i = if s.getD i 0 = 0 then [] else s.getD i 0 :: Gz.zs s (i + 1) := by
  unfold Gz.zs
  rw [Vint.drop_cons s i hi, List.takeWhile_cons]
  by_cases h : s.getD i 0 = 0
  · rw [if_neg (by simpa using h), if_pos h]
  · rw [if_pos (by simpa using h), if_neg h]
theorem zs_end {s : List UInt8} {i : Nat} (hi : s.length ≤ i) : Gz.zs s i = [] := by
  unfold Gz.zs; rw [List.drop_eq_nil_of_le hi]; rfl
/-- What has been passed has no byte 0. -/
def Gz.Past (s : List UInt8) (p i : Nat) : Prop := p ≤ i ∧ i ≤ s.length ∧ Gz.zs s p = (s.drop p).take (i - p) ++ Gz.zs s i
theorem past_step {s : List UInt8} {p i : Nat} (h : Gz.Past s p i) (hi : i < s.length) (h0 : s.getD i 0 ≠ 0) : Gz.Past s p (i + 1) := by
  obtain ⟨h1, h2, h3⟩ := h
  refine ⟨by omega, by omega, ?_⟩
  rw [h3, zs_step hi, if_neg h0, show i + 1 - p = (i - p) + 1 by omega, List.take_add_one, List.getElem?_drop, show p + (i - p) = i by omega, List.getElem?_eq_getElem hi, List.getD_eq_getElem?_getD, List.getElem?_eq_getElem hi]
  simp
theorem past_found {s : List UInt8} {p i : Nat} (h : Gz.Past s p i) (hi : i < s.length) (h0 : s.getD i 0 = 0) : Gz.takeZ s p = some ((s.drop p).take (i - p), i + 1) := by
  obtain ⟨h1, h2, h3⟩ := h
  rw [zs_step hi, if_pos h0, List.append_nil] at h3
  have hl : (Gz.zs s p).length = i - p := by rw [h3, List.length_take, List.length_drop]; omega
  unfold Gz.takeZ
  rw [hl, if_pos (by omega), h3, show p + (i - p) + 1 = i + 1 by omega]
theorem past_end {s : List UInt8} {p : Nat} (h : Gz.Past s p s.length) : Gz.takeZ s p = none := by
  obtain ⟨h1, h2, h3⟩ := h
  rw [zs_end (Nat.le_refl _), List.append_nil] at h3
  have hl : (Gz.zs s p).length = s.length - p := by rw [h3, List.length_take, List.length_drop]; omega
  unfold Gz.takeZ
  rw [hl, if_neg (by omega)]
theorem past_start {s : List UInt8} {p : Nat} (hp : p ≤ s.length) : Gz.Past s p p := ⟨Nat.le_refl _, hp, by simp⟩
theorem sub_toNat (p i : Nat) (h : p ≤ i) : (i : Int).toNat - (p : Int).toNat = i - p := by omega
set_option maxRecDepth 20000 in
set_option maxHeartbeats 4000000 in
theorem gz_ended (s : List UInt8) (hsl : s.length ≤ 4611686018427387904) (p : Nat) (sh : Bool) (hp : p ≤ s.length) (g : Nat) (w : World) (hr : Row w g 82 #[str s, .int .i64 (p : Int), .bool sh] ∧ g < w.heap.size) :
    Does Try.prog 59 #[.pointer (some ⟨g, 0, none⟩)] w fun v w' => ∃ cs', Row w' g 82 cs' ∧ Ext [g] w w' ∧ Gz.Got Gz.takeZ s p sh v cs' := by
  refine does (args := [.pointer (some ⟨g, 0, none⟩)]) Try.func59 rfl (by kernel_rfl) (by kernel_rfl) rfl ent_59 (Sat.one hr.1 hr.2) ?_; intro QV hQ
  simp -implicitDefEqProofs (disch := omega) only [go_sem]
  refine RLoop_intro (fun f h => ∃ i : Nat, Gz.Past s p i ∧ f 0 = .pointer (some ⟨g, 0, none⟩) ∧ f 3 = .int .i64 (i : Int) ∧ h = [.cells g 82 #[str s, .int .i64 (p : Int), .bool sh], .anchor w [g]]) (fun f _ => (s.length - ival (f 3)).toNat) ?_ ?_
  · exact ⟨p, past_start hp, by (first | (simp -implicitDefEqProofs (disch := omega) only [go_sem]; done) | (simp -implicitDefEqProofs (disch := omega) only [go_sem]; rfl)), by (first | (simp -implicitDefEqProofs (disch := omega) only [go_sem]; done) | (simp -implicitDefEqProofs (disch := omega) only [go_sem]; rfl)), rfl⟩
  rintro f h ⟨i, hpast, e0, e3, rfl⟩ Q' hQ'
  have hpi := hpast.1
  by_cases hi : i < s.length
  · have g1 : decide ((i : Int) < (s.length : Int)) = true := decide_eq_true (by omega)
    cases sh with
    | true =>
      simp -implicitDefEqProofs (disch := omega) only [go_sem, e0, e3, g1]
      exact hQ _ _ fun w' hs => ⟨_, (hs.row (by simp)).1, hs.anchor (by simp), .inr ⟨.inl rfl, rfl, p, Nat.le_refl _, hp, rfl⟩⟩
    | false =>
      simp -implicitDefEqProofs (disch := omega) only [go_sem, e0, e3, g1]
      by_cases h0 : s.getD i 0 = 0
      · simp -implicitDefEqProofs (disch := omega) only [go_sem, e0, e3, h0, decide_true]
        refine RDraw_to 11 (by kernel_rfl) (by kernel_rfl) (by kernel_rfl) ?_
        repeat (first | refine Tr_step (fun Q hq => by (simp -implicitDefEqProofs (disch := omega) only [go_sem, e0, e3]; exact hq)) ?_ | refine Tr_guard (by (simp -implicitDefEqProofs only [go_sem, e0, e3]; first | done | fail)) (fun Q hq => by (simp -implicitDefEqProofs (disch := omega) only [go_sem, e0, e3]; exact hq)) ?_ | refine Tr_skip (.inl (by (simp -implicitDefEqProofs only [go_sem, e0, e3]; first | done | fail))) ?_ | refine Tr_skip (.inr (by (simp -implicitDefEqProofs only [go_sem, e0, e3]; first | done | fail))) ?_)
        refine To_nil ?_
        simp -implicitDefEqProofs (disch := omega) only [go_sem, e0, e3]
        exact hQ _ _ fun w' hs => ⟨_, (hs.row (by simp)).1, hs.anchor (by simp), .inl ⟨_, _, rfl, past_found hpast hi h0, rfl, rfl⟩⟩
      · simp -implicitDefEqProofs (disch := omega) only [go_sem, e0, e3, decide_eq_false h0]
        refine hQ' _ _ _ (fun _ h => h) ⟨i + 1, past_step hpast hi h0, by (first | (simp -implicitDefEqProofs (disch := omega) only [go_sem, e0, e3]; done) | (simp -implicitDefEqProofs (disch := omega) only [go_sem, e0, e3]; rfl)), by (first | (simp -implicitDefEqProofs (disch := omega) only [go_sem]; done) | (simp -implicitDefEqProofs (disch := omega) only [go_sem]; rfl)), rfl⟩ ?_
        simp -implicitDefEqProofs (disch := omega) only [go_sem, e0, e3]; omega
  · have g1 : decide ((i : Int) < (s.length : Int)) = false := decide_eq_false (by omega)
    have : i = s.length := by have := hpast.2.1; omega
    subst this
    simp -implicitDefEqProofs (disch := omega) only [go_sem, e0, e3, g1]
    exact hQ _ _ fun w' hs => ⟨_, (hs.row (by simp)).1, hs.anchor (by simp), .inr ⟨.inr (past_end hpast), rfl, p, Nat.le_refl _, hp, rfl⟩⟩
def Gz.endV (o : Option (List UInt8 × Nat)) : Value := match o with | some (z, q) => .tuple #[str z, .int .i64 (q : Int)] | none => .tuple #[str [], .int .i64 (-1)]
set_option maxHeartbeats 4000000 in
theorem rgz_ended (s : List UInt8) (hsl : s.length ≤ 4611686018427387904) (p : Nat) (hp : p ≤ s.length) (w : World) :
    Does Try.prog 52 #[str s, .int .i64 (p : Int)] w fun v w' => v = Gz.endV (Gz.takeZ s p) ∧ Ext [] w w' := by
  refine does (args := [str s, .int .i64 (p : Int)]) Try.func52 rfl (by kernel_rfl) (by kernel_rfl) rfl ent_52 (Sat.start w []) ?_; intro QV hQ
  simp -implicitDefEqProofs (disch := omega) only [go_sem]
  refine RLoop_intro (fun f h => ∃ i : Nat, Gz.Past s p i ∧ f 0 = str s ∧ f 1 = .int .i64 (p : Int) ∧ f 6 = .int .i64 (i : Int) ∧ h = [.anchor w []]) (fun f _ => (s.length - ival (f 6)).toNat) ?_ ?_
  · exact ⟨p, past_start hp, by (first | (simp -implicitDefEqProofs (disch := omega) only [go_sem]; done) | (simp -implicitDefEqProofs (disch := omega) only [go_sem]; rfl)), by (first | (simp -implicitDefEqProofs (disch := omega) only [go_sem]; done) | (simp -implicitDefEqProofs (disch := omega) only [go_sem]; rfl)), by (first | (simp -implicitDefEqProofs (disch := omega) only [go_sem]; done) | (simp -implicitDefEqProofs (disch := omega) only [go_sem]; rfl)), rfl⟩
  rintro f h ⟨i, hpast, e0, e1, e6, rfl⟩ Q' hQ'
  have hpi := hpast.1
  by_cases hi : i < s.length
  · have g1 : decide ((i : Int) < (s.length : Int)) = true := decide_eq_true (by omega)
    simp -implicitDefEqProofs (disch := omega) only [go_sem, e0, e1, e6, g1]
    by_cases h0 : s.getD i 0 = 0
    · simp -implicitDefEqProofs (disch := omega) only [go_sem, e0, e1, e6, h0, decide_true]
      exact hQ _ _ fun w' hs => ⟨by rw [past_found hpast hi h0]; rfl, hs.anchor (by simp)⟩
    · simp -implicitDefEqProofs (disch := omega) only [go_sem, e0, e1, e6, decide_eq_false h0]
      refine hQ' _ _ _ (fun _ h => h) ⟨i + 1, past_step hpast hi h0, by (first | (simp -implicitDefEqProofs (disch := omega) only [go_sem, e0, e1, e6]; done) | (simp -implicitDefEqProofs (disch := omega) only [go_sem, e0, e1, e6]; rfl)), by (first | (simp -implicitDefEqProofs (disch := omega) only [go_sem, e0, e1, e6]; done) | (simp -implicitDefEqProofs (disch := omega) only [go_sem, e0, e1, e6]; rfl)), by (first | (simp -implicitDefEqProofs (disch := omega) only [go_sem]; done) | (simp -implicitDefEqProofs (disch := omega) only [go_sem]; rfl)), rfl⟩ ?_
      simp -implicitDefEqProofs (disch := omega) only [go_sem, e0, e1, e6]; omega
  · have g1 : decide ((i : Int) < (s.length : Int)) = false := decide_eq_false (by omega)
    have : i = s.length := by have := hpast.2.1; omega
    subst this
    simp -implicitDefEqProofs (disch := omega) only [go_sem, e0, e1, e6, g1]
    exact hQ _ _ fun w' hs => ⟨by rw [past_end hpast]; rfl, hs.anchor (by simp)⟩
end Go.Proofs.Ytlmbebnpnnkhmaa
