/- gzhead and its reference: the walks: a head laid down. -/
import Derived.Test.YtlmbebnpnnkhmaaGzB
namespace Go.Proofs.Ytlmbebnpnnkhmaa
set_option linter.unusedSimpArgs false
set_option linter.unusedVariables false
open H
/-- Parts of bytes, and what is known of them. -/
theorem nbE (n d : Nat) (hd : d = 1 ∨ d = 2 ∨ d = 4) (h1 : n < 256 ^ d) : (Vint.fixed (n : Int) (d : Int)).1 = Vint.fixL d n := by
  have h2 : ((n : Nat) : Int) < ((256 ^ d : Nat) : Int) := Int.ofNat_lt.2 h1
  rw [Int.natCast_pow] at h2
  have := Nd.nb_fix (n : Int) d hd (by omega) h2
  rw [Int.toNat_natCast] at this
  exact this
theorem nb1 {n : Nat} (h : n < 256) : (Vint.fixed (n : Int) 1).1 = Vint.fixL 1 n := nbE n 1 (.inl rfl) h
theorem nb2 {n : Nat} (h : n < 65536) : (Vint.fixed (n : Int) 2).1 = Vint.fixL 2 n := nbE n 2 (.inr (.inl rfl)) h
theorem nb4 {n : Nat} (h : n < 4294967296) : (Vint.fixed (n : Int) 4).1 = Vint.fixL 4 n := nbE n 4 (.inr (.inr rfl)) h
theorem gz_put_to (n wd : Int) (X : List UInt8) (hX : (Vint.fixed n wd).1 = X) (hn : -9223372036854775808 ≤ n ∧ n ≤ 9223372036854775807) (g : Nat) (s : List UInt8) (hsl : s.length ≤ 9223372036854775000) (w : World) (hr : Row w g 9 #[str s] ∧ g < w.heap.size) :
    Does Try.prog 40 #[.int .i64 n, .int .i64 wd, .pointer (some ⟨g, 0, none⟩)] w fun v w' => ∃ cs', Row w' g 9 cs' ∧ Ext [g] w w' ∧ (v = .tuple #[] ∧ cs' = #[str (s ++ X)]) := by
  subst hX
  exact gz_put n wd hn g s hsl w hr.1 hr.2
/-- A head as it is laid down. -/
structure Gz.Ok (h : Gz.Hd) (F T L O : Nat) : Prop where
  fl : h.flags = (F : Int)
  tm : h.time = (T : Int)
  lv : h.level = (L : Int)
  os : h.os = (O : Int)
  hF : F < 32 ∧ F % 4 = 0
  hT : T < 4294967296
  hL : L < 256
  hO : O < 256
  ex : h.extra.length ≤ 65535
theorem Gz.right_ok {h : Gz.Hd} (hr : Gz.right h = true) : ∃ F T L O, Gz.Ok h F T L O := by
  unfold Gz.right at hr
  simp only [Bool.and_eq_true, decide_eq_true_eq] at hr
  obtain ⟨⟨h1, h2⟩, _, h4, _⟩ := hr
  obtain ⟨F, hF, hF1, hF2⟩ := _root_.Go.Proofs.Ytlmbebnpnnkhmaa.okF_low h1
  unfold Gz.rng at h2
  rw [decide_eq_true_eq] at h2
  obtain ⟨⟨a, b⟩, ⟨c, d⟩, ⟨e, f⟩⟩ := h2
  exact ⟨F, h.time.toNat, h.level.toNat, h.os.toNat, hF, by omega, by omega, by omega, ⟨hF1, hF2⟩, by omega, by omega, by omega, h4⟩
theorem zB_len (F b : Nat) (s : List UInt8) : (Gz.zB F b s).length ≤ s.length + 1 := by
  unfold Gz.zB; split <;> simp
theorem exB_len (F : Nat) (s : List UInt8) : (Gz.exB F s).length ≤ s.length + 2 := by
  unfold Gz.exB; split
  · rw [List.length_append, Vint.fixL_len]; omega
  · simp
theorem fixB_len (f t l o : Nat) : (Gz.fixB f t l o).length = 10 := by
  unfold Gz.fixB; simp only [List.length_append, Vint.fixL_len, List.length_cons, List.length_nil]
theorem fixB_eq (f t l o : Nat) : [31, 139, 8] ++ Vint.fixL 1 f ++ Vint.fixL 4 t ++ Vint.fixL 1 l ++ Vint.fixL 1 o = Gz.fixB f t l o := by
  unfold Gz.fixB; simp only [List.append_assoc]
theorem sumOf_lt (s : List UInt8) : Gz.sumOf s < 65536 := Nat.mod_lt _ (by decide)
theorem strV_add0 (b : List UInt8) (c : UInt8) (h : b.length ≤ 9223372036854775806) : strV .add ⟨b.toArray⟩ ⟨#[c]⟩ = some (str (b ++ [c])) := strV_add b [c] (by simp; omega)
def Gz.flg (F : Nat) (tx sm : Bool) : Nat := F + (if tx then 1 else 0) + (if sm then 2 else 0)

set_option maxRecDepth 20000 in
set_option maxHeartbeats 8000000 in
theorem gz_build (h : Gz.Hd) (hh : Gz.In h) (hlt : h.name.length ≤ 100000 ∧ h.note.length ≤ 100000) (w : World) : Does Try.prog 26 #[Gz.hdV h] w fun v w' => v = .tuple #[str (Gz.build h).1, .int .i64 (Gz.build h).2] ∧ Ext [] w w' := by
  have hright := gz_right h hh
  have hvv : Gz.hdV h = .agg #[.int .i64 h.time, str h.extra, str h.name, str h.note, .int .i64 h.level, .int .i64 h.os, .bool h.text, .bool h.sum, .int .i64 h.flags] := rfl
  rw [hvv] at hright ⊢
  refine does (args := [.agg #[.int .i64 h.time, str h.extra, str h.name, str h.note, .int .i64 h.level, .int .i64 h.os, .bool h.text, .bool h.sum, .int .i64 h.flags]]) Try.func26 rfl (by kernel_rfl) (by kernel_rfl) rfl ent_26 (Sat.start w []) ?_; intro QV hQ
  cases hR : Gz.right h with
  | false =>
    have hb : Gz.build h = ([], 4) := by unfold Gz.build; rw [hR]; rfl
    rw [hR] at hright
    rw [hb] at hQ
    simp -implicitDefEqProofs (disch := omega) only [go_sem]
    refine RNew_intro fun g hg => ?_
    simp only [below_cons, below_nil, under_anchor, and_true] at hg
    simp -implicitDefEqProofs (disch := omega) only [go_sem]
    refine RCall_eq hright ?_
    simp -implicitDefEqProofs (disch := omega) only [go_sem]
    exact hQ _ _ fun w' hs => ⟨rfl, hs.anchor (by simp)⟩
  | true =>
  rw [hR] at hright
  obtain ⟨F, T, L, O, ok⟩ := Gz.right_ok hR
  have hb : Gz.build h = (Gz.body h ++ Gz.sumB h.sum (Gz.body h), 0) := by unfold Gz.build Gz.bytes; rw [hR]; rfl
  have hbody : Gz.body h = Gz.fixB (Gz.flg F h.text h.sum) T L O ++ Gz.exB F h.extra ++ Gz.zB F 8 h.name ++ Gz.zB F 16 h.note := by
    unfold Gz.body Gz.flagB Gz.flg
    rw [ok.fl, ok.tm, ok.lv, ok.os]; simp only [Int.toNat_natCast]
  rw [hb] at hQ
  generalize hBD : Gz.body h = BD at hQ hbody
  obtain ⟨hnm, hnt⟩ := hlt
  obtain ⟨hfl, htm, hlv, hos, ⟨hF, hF4⟩, hT, hL, hO, hex⟩ := ok
  obtain ⟨tm, ex, nm, nt, lv, os, tx, sm, fl⟩ := h
  simp only at hfl htm hlv hos hnm hnt hex hright hbody hQ ⊢
  clear hb hBD hh
  subst hfl htm hlv hos
  have a1 := and_zero hF 4 (by omega)
  simp -implicitDefEqProofs (disch := omega) only [go_sem]
  refine RNew_intro fun g hg => ?_
  simp only [below_cons, below_nil, under_anchor, and_true] at hg
  simp -implicitDefEqProofs (disch := omega) only [go_sem]
  refine RCall_eq hright ?_
  simp -implicitDefEqProofs (disch := omega) only [go_sem]
  refine RNew_intro fun g2 hg2 => ?_
  simp only [below_cons, below_nil, under_anchor, under_cells, and_true] at hg2
  have ng : g ≠ g2 := Nat.ne_of_lt hg2.1
  have ng' : g2 ≠ g := Ne.symm ng
  have hfn : ∀ k : Nat, True := fun _ => trivial
  simp -implicitDefEqProofs (disch := omega) only [go_sem]
  refine RC_join (fun f h => f 1 = .pointer (some ⟨g, 0, none⟩) ∧ f 4 = .pointer (some ⟨g2, 0, none⟩) ∧ f 5 = .func (.func 40) #[] #[.pointer (some ⟨g2, 0, none⟩)] ∧ f 6 = .int .i64 ((F + (if tx then 1 else 0) : Nat) : Int) ∧ h = [.cells g2 9 #[str [31, 139, 8]], .cells g 49 #[.int .i64 (T : Int), str ex, str nm, str nt, .int .i64 (L : Int), .int .i64 (O : Int), .bool tx, .bool sm, .int .i64 (F : Int)], .anchor w []]) (fun J hJ hc => ?_) (fun J hJ hc => ?_) ?_
  · subst hc
    simp -implicitDefEqProofs (disch := omega) only [go_sem, or1 hF hF4]
    exact hJ _ _ ⟨by (first | (simp -implicitDefEqProofs (disch := omega) only [go_sem]; done) | (simp -implicitDefEqProofs (disch := omega) only [go_sem]; rfl)), by (first | (simp -implicitDefEqProofs (disch := omega) only [go_sem]; done) | (simp -implicitDefEqProofs (disch := omega) only [go_sem]; rfl)), by (first | (simp -implicitDefEqProofs (disch := omega) only [go_sem]; done) | (simp -implicitDefEqProofs (disch := omega) only [go_sem]; rfl)), by (first | (simp -implicitDefEqProofs (disch := omega) only [go_sem]; done) | (simp -implicitDefEqProofs (disch := omega) only [go_sem]; rfl)), rfl⟩
  · subst hc
    simp -implicitDefEqProofs (disch := omega) only [go_sem]
    exact hJ _ _ ⟨by (first | (simp -implicitDefEqProofs (disch := omega) only [go_sem]; done) | (simp -implicitDefEqProofs (disch := omega) only [go_sem]; rfl)), by (first | (simp -implicitDefEqProofs (disch := omega) only [go_sem]; done) | (simp -implicitDefEqProofs (disch := omega) only [go_sem]; rfl)), by (first | (simp -implicitDefEqProofs (disch := omega) only [go_sem]; done) | (simp -implicitDefEqProofs (disch := omega) only [go_sem]; rfl)), by (first | (simp -implicitDefEqProofs (disch := omega) only [go_sem]; done) | (simp -implicitDefEqProofs (disch := omega) only [go_sem]; rfl)), rfl⟩
  rintro f h ⟨e1, e4, e5, e6, rfl⟩
  have hF1 : (F + (if tx then 1 else 0)) < 32 ∧ (F + (if tx then 1 else 0)) % 4 ≤ 1 := by split <;> omega
  have hF2 : Gz.flg F tx sm = F + (if tx then 1 else 0) + (if sm then 2 else 0) := rfl
  generalize hG : F + (if tx then 1 else 0) = G at e6 hF1 hF2
  simp -implicitDefEqProofs (disch := omega) only [go_sem, e1, e4, e5, e6]
  refine RC_join (fun f h => f 1 = .pointer (some ⟨g, 0, none⟩) ∧ f 4 = .pointer (some ⟨g2, 0, none⟩) ∧ f 5 = .func (.func 40) #[] #[.pointer (some ⟨g2, 0, none⟩)] ∧ f 6 = .int .i64 (Gz.flg F tx sm : Int) ∧ h = [.cells g2 9 #[str [31, 139, 8]], .cells g 49 #[.int .i64 (T : Int), str ex, str nm, str nt, .int .i64 (L : Int), .int .i64 (O : Int), .bool tx, .bool sm, .int .i64 (F : Int)], .anchor w []]) (fun J hJ hc => ?_) (fun J hJ hc => ?_) ?_
  · subst hc
    simp -implicitDefEqProofs (disch := omega) only [go_sem, e1, e4, e5, e6, or2 hF1.1 hF1.2]
    exact hJ _ _ ⟨by (first | (simp -implicitDefEqProofs (disch := omega) only [go_sem, e1, e4, e5, e6]; done) | (simp -implicitDefEqProofs (disch := omega) only [go_sem, e1, e4, e5, e6]; rfl)), by (first | (simp -implicitDefEqProofs (disch := omega) only [go_sem, e1, e4, e5, e6]; done) | (simp -implicitDefEqProofs (disch := omega) only [go_sem, e1, e4, e5, e6]; rfl)), by (first | (simp -implicitDefEqProofs (disch := omega) only [go_sem, e1, e4, e5, e6]; done) | (simp -implicitDefEqProofs (disch := omega) only [go_sem, e1, e4, e5, e6]; rfl)), by (rw [hF2]; (first | (simp -implicitDefEqProofs (disch := omega) only [go_sem]; done) | (simp -implicitDefEqProofs (disch := omega) only [go_sem]; rfl))), rfl⟩
  · subst hc
    simp -implicitDefEqProofs (disch := omega) only [go_sem, e1, e4, e5, e6]
    exact hJ _ _ ⟨by (first | (simp -implicitDefEqProofs (disch := omega) only [go_sem, e1, e4, e5, e6]; done) | (simp -implicitDefEqProofs (disch := omega) only [go_sem, e1, e4, e5, e6]; rfl)), by (first | (simp -implicitDefEqProofs (disch := omega) only [go_sem, e1, e4, e5, e6]; done) | (simp -implicitDefEqProofs (disch := omega) only [go_sem, e1, e4, e5, e6]; rfl)), by (first | (simp -implicitDefEqProofs (disch := omega) only [go_sem, e1, e4, e5, e6]; done) | (simp -implicitDefEqProofs (disch := omega) only [go_sem, e1, e4, e5, e6]; rfl)), by (rw [hF2]; (first | (simp -implicitDefEqProofs (disch := omega) only [go_sem, e1, e4, e5, e6]; done) | (simp -implicitDefEqProofs (disch := omega) only [go_sem, e1, e4, e5, e6]; rfl))), rfl⟩
  rintro f h ⟨e1, e4, e5, e6, rfl⟩
  have hff : Gz.flg F tx sm < 32 ∧ Gz.has (Gz.flg F tx sm) 4 = Gz.has F 4 ∧ Gz.has (Gz.flg F tx sm) 8 = Gz.has F 8 ∧ Gz.has (Gz.flg F tx sm) 16 = Gz.has F 16 := by
    have : ∀ F : Nat, F < 32 → F % 4 = 0 → ∀ tx sm : Bool, Gz.flg F tx sm < 32 ∧ Gz.has (Gz.flg F tx sm) 4 = Gz.has F 4 ∧ Gz.has (Gz.flg F tx sm) 8 = Gz.has F 8 ∧ Gz.has (Gz.flg F tx sm) 16 = Gz.has F 16 := by decide +kernel
    exact this F hF hF4 tx sm
  obtain ⟨hff, hh4, hh8, hh16⟩ := hff
  have z4 : decide (bits BinOp.and IntKind.i64 (Gz.flg F tx sm : Int) 4 = 0) = !Gz.has F 4 := by rw [← hh4]; exact and_zero hff 4 (by omega)
  have z8 : decide (bits BinOp.and IntKind.i64 (Gz.flg F tx sm : Int) 8 = 0) = !Gz.has F 8 := by rw [← hh8]; exact and_zero hff 8 (by omega)
  have z16 : decide (bits BinOp.and IntKind.i64 (Gz.flg F tx sm : Int) 16 = 0) = !Gz.has F 16 := by rw [← hh16]; exact and_zero hff 16 (by omega)
  generalize Gz.flg F tx sm = fB at *
  have hEl := exB_len F ex
  have hNl := zB_len F 8 nm
  have hMl := zB_len F 16 nt
  have hBl := fixB_len fB T L O
  have hBE := fixB_eq fB T L O
  have hEx : Gz.exB F ex = if Gz.has F 4 then Vint.fixL 2 ex.length ++ ex else [] := rfl
  have hNx : Gz.zB F 8 nm = if Gz.has F 8 then nm ++ [0] else [] := rfl
  have hMx : Gz.zB F 16 nt = if Gz.has F 16 then nt ++ [0] else [] := rfl
  generalize Gz.fixB fB T L O = B0 at *
  generalize Gz.exB F ex = E0 at *
  generalize Gz.zB F 8 nm = N0 at *
  generalize Gz.zB F 16 nt = M0 at *
  simp -implicitDefEqProofs (disch := omega) only [go_sem, e1, e4, e5, e6]

  refine RCall_mut [] _ rfl (fun w1 hs => gz_put_to fB 1 _ (nb1 (by omega)) (by omega) g2 [31, 139, 8] (by simp only [List.length_append, List.length_cons, List.length_nil, Vint.fixL_len]; omega) w1 (hs.row (by simp))) ?_
  rintro _ _ ⟨rfl, rfl⟩
  simp -implicitDefEqProofs (disch := omega) only [go_sem, e1, e4, e5, e6]
  refine RCall_mut [] _ rfl (fun w1 hs => gz_put_to T 4 _ (nb4 (by omega)) (by omega) g2 ([31, 139, 8] ++ Vint.fixL 1 fB) (by simp only [List.length_append, List.length_cons, List.length_nil, Vint.fixL_len]; omega) w1 (hs.row (by simp))) ?_
  rintro _ _ ⟨rfl, rfl⟩
  simp -implicitDefEqProofs (disch := omega) only [go_sem, e1, e4, e5, e6]
  refine RCall_mut [] _ rfl (fun w1 hs => gz_put_to L 1 _ (nb1 (by omega)) (by omega) g2 ([31, 139, 8] ++ Vint.fixL 1 fB ++ Vint.fixL 4 T) (by simp only [List.length_append, List.length_cons, List.length_nil, Vint.fixL_len]; omega) w1 (hs.row (by simp))) ?_
  rintro _ _ ⟨rfl, rfl⟩
  simp -implicitDefEqProofs (disch := omega) only [go_sem, e1, e4, e5, e6]
  refine RCall_mut [] _ rfl (fun w1 hs => gz_put_to O 1 _ (nb1 (by omega)) (by omega) g2 ([31, 139, 8] ++ Vint.fixL 1 fB ++ Vint.fixL 4 T ++ Vint.fixL 1 L) (by simp only [List.length_append, List.length_cons, List.length_nil, Vint.fixL_len]; omega) w1 (hs.row (by simp))) ?_
  rintro _ _ ⟨rfl, rfl⟩
  rw [hBE]
  simp -implicitDefEqProofs (disch := omega) only [go_sem, e1, e4, e5, e6, z4]
  refine RC_join (fun f h => f 1 = .pointer (some ⟨g, 0, none⟩) ∧ f 4 = .pointer (some ⟨g2, 0, none⟩) ∧ f 5 = .func (.func 40) #[] #[.pointer (some ⟨g2, 0, none⟩)] ∧ f 6 = .int .i64 (fB : Int) ∧ h = [.cells g2 9 #[str (B0 ++ E0)], .cells g 49 #[.int .i64 (T : Int), str ex, str nm, str nt, .int .i64 (L : Int), .int .i64 (O : Int), .bool tx, .bool sm, .int .i64 (F : Int)], .anchor w []]) (fun J hJ hc => ?_) (fun J hJ hc => ?_) ?_
  · simp -implicitDefEqProofs (disch := omega) only [go_sem, e1, e4, e5, e6]
    refine RCall_mut [] _ rfl (fun w1 hs => gz_put_to ex.length 2 _ (nb2 (by omega)) (by omega) g2 B0 (by omega) w1 (hs.row (by simp))) ?_
    rintro _ _ ⟨rfl, rfl⟩
    have hl : (B0 ++ Vint.fixL 2 ex.length).length ≤ 100 := by rw [List.length_append, Vint.fixL_len]; omega
    simp -implicitDefEqProofs (disch := omega) only [go_sem, e1, e4, e5, e6]
    exact hJ _ _ ⟨by (first | (simp -implicitDefEqProofs (disch := omega) only [go_sem, e1, e4, e5, e6]; done) | (simp -implicitDefEqProofs (disch := omega) only [go_sem, e1, e4, e5, e6]; rfl)), by (first | (simp -implicitDefEqProofs (disch := omega) only [go_sem, e1, e4, e5, e6]; done) | (simp -implicitDefEqProofs (disch := omega) only [go_sem, e1, e4, e5, e6]; rfl)), by (first | (simp -implicitDefEqProofs (disch := omega) only [go_sem, e1, e4, e5, e6]; done) | (simp -implicitDefEqProofs (disch := omega) only [go_sem, e1, e4, e5, e6]; rfl)), by (first | (simp -implicitDefEqProofs (disch := omega) only [go_sem, e1, e4, e5, e6]; done) | (simp -implicitDefEqProofs (disch := omega) only [go_sem, e1, e4, e5, e6]; rfl)), by rw [hEx, if_pos hc, List.append_assoc]⟩
  · simp -implicitDefEqProofs (disch := omega) only [go_sem, e1, e4, e5, e6]
    exact hJ _ _ ⟨by (first | (simp -implicitDefEqProofs (disch := omega) only [go_sem, e1, e4, e5, e6]; done) | (simp -implicitDefEqProofs (disch := omega) only [go_sem, e1, e4, e5, e6]; rfl)), by (first | (simp -implicitDefEqProofs (disch := omega) only [go_sem, e1, e4, e5, e6]; done) | (simp -implicitDefEqProofs (disch := omega) only [go_sem, e1, e4, e5, e6]; rfl)), by (first | (simp -implicitDefEqProofs (disch := omega) only [go_sem, e1, e4, e5, e6]; done) | (simp -implicitDefEqProofs (disch := omega) only [go_sem, e1, e4, e5, e6]; rfl)), by (first | (simp -implicitDefEqProofs (disch := omega) only [go_sem, e1, e4, e5, e6]; done) | (simp -implicitDefEqProofs (disch := omega) only [go_sem, e1, e4, e5, e6]; rfl)), by rw [hEx, if_neg (by rw [hc]; simp), List.append_nil]⟩
  rintro f h ⟨e1, e4, e5, e6, rfl⟩
  have hl1 : (B0 ++ E0).length ≤ 70000 := by rw [List.length_append]; omega
  generalize hY1 : B0 ++ E0 = Y1 at *
  simp -implicitDefEqProofs (disch := omega) only [go_sem, e1, e4, e5, e6, z8]
  refine RC_join (fun f h => f 1 = .pointer (some ⟨g, 0, none⟩) ∧ f 4 = .pointer (some ⟨g2, 0, none⟩) ∧ f 5 = .func (.func 40) #[] #[.pointer (some ⟨g2, 0, none⟩)] ∧ f 6 = .int .i64 (fB : Int) ∧ h = [.cells g2 9 #[str (Y1 ++ N0)], .cells g 49 #[.int .i64 (T : Int), str ex, str nm, str nt, .int .i64 (L : Int), .int .i64 (O : Int), .bool tx, .bool sm, .int .i64 (F : Int)], .anchor w []]) (fun J hJ hc => ?_) (fun J hJ hc => ?_) ?_
  · have hl : (nm ++ [(0 : UInt8)]).length ≤ 100001 := by simp; omega
    simp -implicitDefEqProofs (disch := omega) only [go_sem, e1, e4, e5, e6, strV_add0]
    exact hJ _ _ ⟨by (first | (simp -implicitDefEqProofs (disch := omega) only [go_sem, e1, e4, e5, e6]; done) | (simp -implicitDefEqProofs (disch := omega) only [go_sem, e1, e4, e5, e6]; rfl)), by (first | (simp -implicitDefEqProofs (disch := omega) only [go_sem, e1, e4, e5, e6]; done) | (simp -implicitDefEqProofs (disch := omega) only [go_sem, e1, e4, e5, e6]; rfl)), by (first | (simp -implicitDefEqProofs (disch := omega) only [go_sem, e1, e4, e5, e6]; done) | (simp -implicitDefEqProofs (disch := omega) only [go_sem, e1, e4, e5, e6]; rfl)), by (first | (simp -implicitDefEqProofs (disch := omega) only [go_sem, e1, e4, e5, e6]; done) | (simp -implicitDefEqProofs (disch := omega) only [go_sem, e1, e4, e5, e6]; rfl)), by rw [hNx, if_pos hc]⟩
  · simp -implicitDefEqProofs (disch := omega) only [go_sem, e1, e4, e5, e6]
    exact hJ _ _ ⟨by (first | (simp -implicitDefEqProofs (disch := omega) only [go_sem, e1, e4, e5, e6]; done) | (simp -implicitDefEqProofs (disch := omega) only [go_sem, e1, e4, e5, e6]; rfl)), by (first | (simp -implicitDefEqProofs (disch := omega) only [go_sem, e1, e4, e5, e6]; done) | (simp -implicitDefEqProofs (disch := omega) only [go_sem, e1, e4, e5, e6]; rfl)), by (first | (simp -implicitDefEqProofs (disch := omega) only [go_sem, e1, e4, e5, e6]; done) | (simp -implicitDefEqProofs (disch := omega) only [go_sem, e1, e4, e5, e6]; rfl)), by (first | (simp -implicitDefEqProofs (disch := omega) only [go_sem, e1, e4, e5, e6]; done) | (simp -implicitDefEqProofs (disch := omega) only [go_sem, e1, e4, e5, e6]; rfl)), by rw [hNx, if_neg (by rw [hc]; simp), List.append_nil]⟩
  rintro f h ⟨e1, e4, e5, e6, rfl⟩
  have hlY1 : (Y1 ++ N0).length ≤ 200000 := by rw [List.length_append]; omega
  generalize hY2 : Y1 ++ N0 = Y2 at *
  simp -implicitDefEqProofs (disch := omega) only [go_sem, e1, e4, e5, e6, z16]
  refine RC_join (fun f h => f 1 = .pointer (some ⟨g, 0, none⟩) ∧ f 4 = .pointer (some ⟨g2, 0, none⟩) ∧ f 5 = .func (.func 40) #[] #[.pointer (some ⟨g2, 0, none⟩)] ∧ f 6 = .int .i64 (fB : Int) ∧ h = [.cells g2 9 #[str (Y2 ++ M0)], .cells g 49 #[.int .i64 (T : Int), str ex, str nm, str nt, .int .i64 (L : Int), .int .i64 (O : Int), .bool tx, .bool sm, .int .i64 (F : Int)], .anchor w []]) (fun J hJ hc => ?_) (fun J hJ hc => ?_) ?_
  · have hl : (nt ++ [(0 : UInt8)]).length ≤ 100001 := by simp; omega
    simp -implicitDefEqProofs (disch := omega) only [go_sem, e1, e4, e5, e6, strV_add0]
    exact hJ _ _ ⟨by (first | (simp -implicitDefEqProofs (disch := omega) only [go_sem, e1, e4, e5, e6]; done) | (simp -implicitDefEqProofs (disch := omega) only [go_sem, e1, e4, e5, e6]; rfl)), by (first | (simp -implicitDefEqProofs (disch := omega) only [go_sem, e1, e4, e5, e6]; done) | (simp -implicitDefEqProofs (disch := omega) only [go_sem, e1, e4, e5, e6]; rfl)), by (first | (simp -implicitDefEqProofs (disch := omega) only [go_sem, e1, e4, e5, e6]; done) | (simp -implicitDefEqProofs (disch := omega) only [go_sem, e1, e4, e5, e6]; rfl)), by (first | (simp -implicitDefEqProofs (disch := omega) only [go_sem, e1, e4, e5, e6]; done) | (simp -implicitDefEqProofs (disch := omega) only [go_sem, e1, e4, e5, e6]; rfl)), by rw [hMx, if_pos hc]⟩
  · simp -implicitDefEqProofs (disch := omega) only [go_sem, e1, e4, e5, e6]
    exact hJ _ _ ⟨by (first | (simp -implicitDefEqProofs (disch := omega) only [go_sem, e1, e4, e5, e6]; done) | (simp -implicitDefEqProofs (disch := omega) only [go_sem, e1, e4, e5, e6]; rfl)), by (first | (simp -implicitDefEqProofs (disch := omega) only [go_sem, e1, e4, e5, e6]; done) | (simp -implicitDefEqProofs (disch := omega) only [go_sem, e1, e4, e5, e6]; rfl)), by (first | (simp -implicitDefEqProofs (disch := omega) only [go_sem, e1, e4, e5, e6]; done) | (simp -implicitDefEqProofs (disch := omega) only [go_sem, e1, e4, e5, e6]; rfl)), by (first | (simp -implicitDefEqProofs (disch := omega) only [go_sem, e1, e4, e5, e6]; done) | (simp -implicitDefEqProofs (disch := omega) only [go_sem, e1, e4, e5, e6]; rfl)), by rw [hMx, if_neg (by rw [hc]; simp), List.append_nil]⟩
  rintro f h ⟨e1, e4, e5, e6, rfl⟩
  have hlY2 : (Y2 ++ M0).length ≤ 400000 := by rw [List.length_append]; omega
  have hD : BD = Y2 ++ M0 := by rw [hbody, ← hY2]
  rw [← hD] at hlY2 ⊢
  simp -implicitDefEqProofs (disch := omega) only [go_sem, e1, e4, e5, e6]
  cases sm with
  | true =>
    simp -implicitDefEqProofs (disch := omega) only [go_sem, e1, e4, e5, e6]
    refine RCall_eq (gz_sum BD (by omega)) ?_
    simp -implicitDefEqProofs (disch := omega) only [go_sem, e1, e4, e5, e6]
    have hs2 := sumOf_lt BD
    refine RCall_mut [] _ rfl (fun w1 hs => gz_put_to (Gz.sumOf BD) 2 _ (nb2 hs2) (by omega) g2 BD (by omega) w1 (hs.row (by simp))) ?_
    rintro _ _ ⟨rfl, rfl⟩
    simp -implicitDefEqProofs (disch := omega) only [go_sem, e1, e4, e5, e6]
    exact hQ _ _ fun w' hs => ⟨rfl, hs.anchor (by simp)⟩
  | false =>
    simp -implicitDefEqProofs (disch := omega) only [go_sem, e1, e4, e5, e6]
    exact hQ _ _ fun w' hs => ⟨by unfold Gz.sumB; simp, hs.anchor (by simp)⟩
end Go.Proofs.Ytlmbebnpnnkhmaa
