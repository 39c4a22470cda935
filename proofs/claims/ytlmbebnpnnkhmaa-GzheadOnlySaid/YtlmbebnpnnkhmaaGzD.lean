/- gzhead's reference: the walk: a head laid down. -/
import Derived.Test.YtlmbebnpnnkhmaaGzC
namespace Go.Proofs.Ytlmbebnpnnkhmaa
set_option linter.unusedSimpArgs false
set_option linter.unusedVariables false
open H
theorem rgz_num_to (n wd : Int) (X : List UInt8) (hX : (Vint.fixed n wd).1 = X) (hn : -9223372036854775808 ≤ n ∧ n ≤ 9223372036854775807) (w : World) : Does Try.prog 43 #[.int .i64 n, .int .i64 wd] w fun v w' => v = str X ∧ Ext [] w w' := by
  subst hX
  exact rgz_num n wd hn w
theorem strV_add4 (f t : List UInt8) (h : t.length ≤ 9223372036854770000) (hf : f.length ≤ 5000) : strV .add ⟨f.toArray⟩ ⟨t.toArray⟩ = some (str (f ++ t)) := strV_add f t (by omega)
theorem sumOf_rem (s : List UInt8) : ((Crc.of s % 65536#32).toNat : Int) = (Gz.sumOf s : Int) := by rw [sum_rem]
set_option maxRecDepth 20000 in
set_option maxHeartbeats 8000000 in
theorem rgz_build (h : Gz.Hd) (hh : Gz.In h) (hlt : h.name.length ≤ 100000 ∧ h.note.length ≤ 100000) (w : World) : Does Try.prog 27 #[Gz.hdV h] w fun v w' => v = .tuple #[str (Gz.build h).1, .int .i64 (Gz.build h).2] ∧ Ext [] w w' := by
  have hright := rgz_right h hh
  have hvv : Gz.hdV h = .agg #[.int .i64 h.time, str h.extra, str h.name, str h.note, .int .i64 h.level, .int .i64 h.os, .bool h.text, .bool h.sum, .int .i64 h.flags] := rfl
  rw [hvv] at hright ⊢
  refine does (args := [.agg #[.int .i64 h.time, str h.extra, str h.name, str h.note, .int .i64 h.level, .int .i64 h.os, .bool h.text, .bool h.sum, .int .i64 h.flags]]) Try.func27 rfl (by kernel_rfl) (by kernel_rfl) rfl ent_27 (Sat.start w []) ?_; intro QV hQ
  cases hR : Gz.right h with
  | false =>
    have hb : Gz.build h = ([], 4) := by unfold Gz.build; rw [hR]; rfl
    rw [hR] at hright
    rw [hb] at hQ
    simp -implicitDefEqProofs (disch := omega) only [go_sem]
    refine RNew_intro fun g hg => ?_
    simp only [below_cons, below_nil, under_anchor, and_true] at hg
    simp -implicitDefEqProofs (disch := omega) only [go_sem]
    refine RCall_eq hright ?_
    simp -implicitDefEqProofs (disch := omega) only [go_sem]
    exact hQ _ _ fun w' hs => ⟨rfl, hs.anchor (by simp)⟩
  | true =>
  rw [hR] at hright
  obtain ⟨F, T, L, O, ok⟩ := Gz.right_ok hR
  have hb : Gz.build h = (Gz.body h ++ Gz.sumB h.sum (Gz.body h), 0) := by unfold Gz.build Gz.bytes; rw [hR]; rfl
  have hbody : Gz.body h = Gz.fixB (Gz.flg F h.text h.sum) T L O ++ Gz.exB F h.extra ++ Gz.zB F 8 h.name ++ Gz.zB F 16 h.note := by
    unfold Gz.body Gz.flagB Gz.flg
    rw [ok.fl, ok.tm, ok.lv, ok.os]; simp only [Int.toNat_natCast]
  rw [hb] at hQ
  generalize hBD : Gz.body h = BD at hQ hbody
  obtain ⟨hnm, hnt⟩ := hlt
  obtain ⟨hfl, htm, hlv, hos, ⟨hF, hF4⟩, hT, hL, hO, hex⟩ := ok
  obtain ⟨tm, ex, nm, nt, lv, os, tx, sm, fl⟩ := h
  simp only at hfl htm hlv hos hnm hnt hex hright hbody hQ ⊢
  clear hb hBD hh
  subst hfl htm hlv hos
  simp -implicitDefEqProofs (disch := omega) only [go_sem]
  refine RNew_intro fun g hg => ?_
  simp only [below_cons, below_nil, under_anchor, and_true] at hg
  simp -implicitDefEqProofs (disch := omega) only [go_sem]
  refine RCall_eq hright ?_
  simp -implicitDefEqProofs (disch := omega) only [go_sem]
  refine RC_join (fun f h => f 1 = .pointer (some ⟨g, 0, none⟩) ∧ f 4 = .int .i64 ((F + (if tx then 1 else 0) : Nat) : Int) ∧ h = [.cells g 49 #[.int .i64 (T : Int), str ex, str nm, str nt, .int .i64 (L : Int), .int .i64 (O : Int), .bool tx, .bool sm, .int .i64 (F : Int)], .anchor w []]) (fun J hJ hc => ?_) (fun J hJ hc => ?_) ?_
  · subst hc
    simp -implicitDefEqProofs (disch := omega) only [go_sem]
    exact hJ _ _ ⟨by (first | (simp -implicitDefEqProofs (disch := omega) only [go_sem]; done) | (simp -implicitDefEqProofs (disch := omega) only [go_sem]; rfl)), by (first | (simp -implicitDefEqProofs (disch := omega) only [go_sem]; done) | (simp -implicitDefEqProofs (disch := omega) only [go_sem]; rfl)), rfl⟩
  · subst hc
    simp -implicitDefEqProofs (disch := omega) only [go_sem]
    exact hJ _ _ ⟨by (first | (simp -implicitDefEqProofs (disch := omega) only [go_sem]; done) | (simp -implicitDefEqProofs (disch := omega) only [go_sem]; rfl)), by (first | (simp -implicitDefEqProofs (disch := omega) only [go_sem]; done) | (simp -implicitDefEqProofs (disch := omega) only [go_sem]; rfl)), rfl⟩
  rintro f h ⟨e1, e4, rfl⟩
  have hF1 : (F + (if tx then 1 else 0)) < 32 ∧ (F + (if tx then 1 else 0)) % 4 ≤ 1 := by split <;> omega
  have hF2 : Gz.flg F tx sm = F + (if tx then 1 else 0) + (if sm then 2 else 0) := rfl
  generalize hG : F + (if tx then 1 else 0) = G at e4 hF1 hF2
  simp -implicitDefEqProofs (disch := omega) only [go_sem, e1, e4]
  refine RC_join (fun f h => f 1 = .pointer (some ⟨g, 0, none⟩) ∧ f 4 = .int .i64 (Gz.flg F tx sm : Int) ∧ h = [.cells g 49 #[.int .i64 (T : Int), str ex, str nm, str nt, .int .i64 (L : Int), .int .i64 (O : Int), .bool tx, .bool sm, .int .i64 (F : Int)], .anchor w []]) (fun J hJ hc => ?_) (fun J hJ hc => ?_) ?_
  · subst hc
    simp -implicitDefEqProofs (disch := omega) only [go_sem, e1, e4]
    exact hJ _ _ ⟨by (first | (simp -implicitDefEqProofs (disch := omega) only [go_sem, e1, e4]; done) | (simp -implicitDefEqProofs (disch := omega) only [go_sem, e1, e4]; rfl)), by (rw [hF2]; (first | (simp -implicitDefEqProofs (disch := omega) only [go_sem]; done) | (simp -implicitDefEqProofs (disch := omega) only [go_sem]; rfl))), rfl⟩
  · subst hc
    simp -implicitDefEqProofs (disch := omega) only [go_sem, e1, e4]
    exact hJ _ _ ⟨by (first | (simp -implicitDefEqProofs (disch := omega) only [go_sem, e1, e4]; done) | (simp -implicitDefEqProofs (disch := omega) only [go_sem, e1, e4]; rfl)), by (rw [hF2]; (first | (simp -implicitDefEqProofs (disch := omega) only [go_sem, e1, e4]; done) | (simp -implicitDefEqProofs (disch := omega) only [go_sem, e1, e4]; rfl))), rfl⟩
  rintro f h ⟨e1, e4, rfl⟩
  have hff : Gz.flg F tx sm < 32 := by rw [hF2]; split <;> omega
  generalize Gz.flg F tx sm = fB at *
  have hEl := exB_len F ex
  have hNl := zB_len F 8 nm
  have hMl := zB_len F 16 nt
  have hBl := fixB_len fB T L O
  have hBE := fixB_eq fB T L O
  have hEx : Gz.exB F ex = if Gz.has F 4 then Vint.fixL 2 ex.length ++ ex else [] := rfl
  have hNx : Gz.zB F 8 nm = if Gz.has F 8 then nm ++ [0] else [] := rfl
  have hMx : Gz.zB F 16 nt = if Gz.has F 16 then nt ++ [0] else [] := rfl
  generalize Gz.fixB fB T L O = B0 at *
  generalize Gz.exB F ex = E0 at *
  generalize Gz.zB F 8 nm = N0 at *
  generalize Gz.zB F 16 nt = M0 at *
  have l1 : (Vint.fixL 1 fB).length ≤ 10 := by rw [Vint.fixL_len]; omega
  have l2 : (Vint.fixL 4 T).length ≤ 10 := by rw [Vint.fixL_len]; omega
  have l3 : (Vint.fixL 1 L).length ≤ 10 := by rw [Vint.fixL_len]; omega
  have l4 : (Vint.fixL 1 O).length ≤ 10 := by rw [Vint.fixL_len]; omega
  have b1 : (31 :: 139 :: 8 :: Vint.fixL 1 fB).length ≤ 100 := by simp only [List.length_append, List.length_cons, List.length_nil]; omega
  have b2 : (31 :: 139 :: 8 :: (Vint.fixL 1 fB ++ Vint.fixL 4 T)).length ≤ 100 := by simp only [List.length_append, List.length_cons, List.length_nil]; omega
  have b3 : (31 :: 139 :: 8 :: (Vint.fixL 1 fB ++ Vint.fixL 4 T ++ Vint.fixL 1 L)).length ≤ 100 := by simp only [List.length_append, List.length_cons, List.length_nil]; omega
  have b0 : strV .add ⟨#[31, 139, 8]⟩ ⟨(Vint.fixL 1 fB).toArray⟩ = some (str ([31, 139, 8] ++ Vint.fixL 1 fB)) := strV_add [31, 139, 8] _ (by simp only [List.length_cons, List.length_nil]; omega)
  simp -implicitDefEqProofs (disch := omega) only [go_sem, e1, e4]
  refine RDraw_to 15 (by kernel_rfl) (by kernel_rfl) (by kernel_rfl) ?_
  repeat (first | refine Tr_step (fun Q hq => by (simp -implicitDefEqProofs (disch := omega) only [go_sem, e1, e4]; exact hq)) ?_ | refine Tr_guard (by (simp -implicitDefEqProofs only [go_sem, e1, e4]; first | done | fail)) (fun Q hq => by (simp -implicitDefEqProofs (disch := omega) only [go_sem, e1, e4]; exact hq)) ?_ | refine Tr_skip (.inl (by (simp -implicitDefEqProofs only [go_sem, e1, e4]; first | done | fail))) ?_ | refine Tr_skip (.inr (by (simp -implicitDefEqProofs only [go_sem, e1, e4]; first | done | fail))) ?_)
  first | refine Tr_step (fun Q hq => by (simp -implicitDefEqProofs (disch := omega) only [go_sem, e1, e4]; refine RCall_eq (rgz_num_to (fB : Int) 1 _ (nb1 (by omega)) (by omega)) ?_; simp -implicitDefEqProofs (disch := omega) only [go_sem, e1, e4]; exact hq)) ?_ | refine Tr_guard (by (simp -implicitDefEqProofs only [go_sem, e1, e4]; first | done | fail)) (fun Q hq => by (simp -implicitDefEqProofs (disch := omega) only [go_sem, e1, e4]; refine RCall_eq (rgz_num_to (fB : Int) 1 _ (nb1 (by omega)) (by omega)) ?_; simp -implicitDefEqProofs (disch := omega) only [go_sem, e1, e4]; exact hq)) ?_
  repeat (first | refine Tr_step (fun Q hq => by (simp -implicitDefEqProofs (disch := omega) only [go_sem, e1, e4, b0]; exact hq)) ?_ | refine Tr_guard (by (simp -implicitDefEqProofs only [go_sem, e1, e4, b0]; first | done | fail)) (fun Q hq => by (simp -implicitDefEqProofs (disch := omega) only [go_sem, e1, e4, b0]; exact hq)) ?_ | refine Tr_skip (.inl (by (simp -implicitDefEqProofs only [go_sem, e1, e4, b0]; first | done | fail))) ?_ | refine Tr_skip (.inr (by (simp -implicitDefEqProofs only [go_sem, e1, e4, b0]; first | done | fail))) ?_)
  first | refine Tr_step (fun Q hq => by (simp -implicitDefEqProofs (disch := omega) only [go_sem, e1, e4]; refine RCall_eq (rgz_num_to (T : Int) 4 _ (nb4 (by omega)) (by omega)) ?_; simp -implicitDefEqProofs (disch := omega) only [go_sem, e1, e4]; exact hq)) ?_ | refine Tr_guard (by (simp -implicitDefEqProofs only [go_sem, e1, e4]; first | done | fail)) (fun Q hq => by (simp -implicitDefEqProofs (disch := omega) only [go_sem, e1, e4]; refine RCall_eq (rgz_num_to (T : Int) 4 _ (nb4 (by omega)) (by omega)) ?_; simp -implicitDefEqProofs (disch := omega) only [go_sem, e1, e4]; exact hq)) ?_
  repeat (first | refine Tr_step (fun Q hq => by (simp -implicitDefEqProofs (disch := omega) only [go_sem, e1, e4]; exact hq)) ?_ | refine Tr_guard (by (simp -implicitDefEqProofs only [go_sem, e1, e4]; first | done | fail)) (fun Q hq => by (simp -implicitDefEqProofs (disch := omega) only [go_sem, e1, e4]; exact hq)) ?_ | refine Tr_skip (.inl (by (simp -implicitDefEqProofs only [go_sem, e1, e4]; first | done | fail))) ?_ | refine Tr_skip (.inr (by (simp -implicitDefEqProofs only [go_sem, e1, e4]; first | done | fail))) ?_)
  first | refine Tr_step (fun Q hq => by (simp -implicitDefEqProofs (disch := omega) only [go_sem, e1, e4]; refine RCall_eq (rgz_num_to (L : Int) 1 _ (nb1 (by omega)) (by omega)) ?_; simp -implicitDefEqProofs (disch := omega) only [go_sem, e1, e4]; exact hq)) ?_ | refine Tr_guard (by (simp -implicitDefEqProofs only [go_sem, e1, e4]; first | done | fail)) (fun Q hq => by (simp -implicitDefEqProofs (disch := omega) only [go_sem, e1, e4]; refine RCall_eq (rgz_num_to (L : Int) 1 _ (nb1 (by omega)) (by omega)) ?_; simp -implicitDefEqProofs (disch := omega) only [go_sem, e1, e4]; exact hq)) ?_
  repeat (first | refine Tr_step (fun Q hq => by (simp -implicitDefEqProofs (disch := omega) only [go_sem, e1, e4]; exact hq)) ?_ | refine Tr_guard (by (simp -implicitDefEqProofs only [go_sem, e1, e4]; first | done | fail)) (fun Q hq => by (simp -implicitDefEqProofs (disch := omega) only [go_sem, e1, e4]; exact hq)) ?_ | refine Tr_skip (.inl (by (simp -implicitDefEqProofs only [go_sem, e1, e4]; first | done | fail))) ?_ | refine Tr_skip (.inr (by (simp -implicitDefEqProofs only [go_sem, e1, e4]; first | done | fail))) ?_)
  first | refine Tr_step (fun Q hq => by (simp -implicitDefEqProofs (disch := omega) only [go_sem, e1, e4]; refine RCall_eq (rgz_num_to (O : Int) 1 _ (nb1 (by omega)) (by omega)) ?_; simp -implicitDefEqProofs (disch := omega) only [go_sem, e1, e4]; exact hq)) ?_ | refine Tr_guard (by (simp -implicitDefEqProofs only [go_sem, e1, e4]; first | done | fail)) (fun Q hq => by (simp -implicitDefEqProofs (disch := omega) only [go_sem, e1, e4]; refine RCall_eq (rgz_num_to (O : Int) 1 _ (nb1 (by omega)) (by omega)) ?_; simp -implicitDefEqProofs (disch := omega) only [go_sem, e1, e4]; exact hq)) ?_
  repeat (first | refine Tr_step (fun Q hq => by (simp -implicitDefEqProofs (disch := omega) only [go_sem, e1, e4]; exact hq)) ?_ | refine Tr_guard (by (simp -implicitDefEqProofs only [go_sem, e1, e4]; first | done | fail)) (fun Q hq => by (simp -implicitDefEqProofs (disch := omega) only [go_sem, e1, e4]; exact hq)) ?_ | refine Tr_skip (.inl (by (simp -implicitDefEqProofs only [go_sem, e1, e4]; first | done | fail))) ?_ | refine Tr_skip (.inr (by (simp -implicitDefEqProofs only [go_sem, e1, e4]; first | done | fail))) ?_)
  refine To_nil ?_
  simp -implicitDefEqProofs (disch := omega) only [go_sem, e1, e4]
  simp only [List.cons_append, List.nil_append] at hBE
  rw [hBE]
  refine RCall_eq (rgz_has F 4 (by omega) (by omega)) ?_
  simp -implicitDefEqProofs (disch := omega) only [go_sem, e1, e4]
  have l5 : (B0 ++ Vint.fixL 2 ex.length).length ≤ 100 := by simp only [List.length_append, Vint.fixL_len]; omega
  have l6 : (Vint.fixL 2 ex.length).length ≤ 10 := by rw [Vint.fixL_len]; omega
  refine RC_join (fun f h => f 1 = .pointer (some ⟨g, 0, none⟩) ∧ f 5 = str (B0 ++ E0) ∧ h = [.cells g 49 #[.int .i64 (T : Int), str ex, str nm, str nt, .int .i64 (L : Int), .int .i64 (O : Int), .bool tx, .bool sm, .int .i64 (F : Int)], .anchor w []]) (fun J hJ hc => ?_) (fun J hJ hc => ?_) ?_
  · simp -implicitDefEqProofs (disch := omega) only [go_sem, e1, e4]
    refine RDraw_to 9 (by kernel_rfl) (by kernel_rfl) (by kernel_rfl) ?_
    repeat (first | refine Tr_step (fun Q hq => by (simp -implicitDefEqProofs (disch := omega) only [go_sem, e1, e4]; exact hq)) ?_ | refine Tr_guard (by (simp -implicitDefEqProofs only [go_sem, e1, e4]; first | done | fail)) (fun Q hq => by (simp -implicitDefEqProofs (disch := omega) only [go_sem, e1, e4]; exact hq)) ?_ | refine Tr_skip (.inl (by (simp -implicitDefEqProofs only [go_sem, e1, e4]; first | done | fail))) ?_ | refine Tr_skip (.inr (by (simp -implicitDefEqProofs only [go_sem, e1, e4]; first | done | fail))) ?_)
    first | refine Tr_step (fun Q hq => by (simp -implicitDefEqProofs (disch := omega) only [go_sem, e1, e4]; refine RCall_eq (rgz_num_to (ex.length : Int) 2 _ (nb2 (by omega)) (by omega)) ?_; simp -implicitDefEqProofs (disch := omega) only [go_sem, e1, e4]; exact hq)) ?_ | refine Tr_guard (by (simp -implicitDefEqProofs only [go_sem, e1, e4]; first | done | fail)) (fun Q hq => by (simp -implicitDefEqProofs (disch := omega) only [go_sem, e1, e4]; refine RCall_eq (rgz_num_to (ex.length : Int) 2 _ (nb2 (by omega)) (by omega)) ?_; simp -implicitDefEqProofs (disch := omega) only [go_sem, e1, e4]; exact hq)) ?_
    repeat (first | refine Tr_step (fun Q hq => by (simp -implicitDefEqProofs (disch := omega) only [go_sem, e1, e4]; exact hq)) ?_ | refine Tr_guard (by (simp -implicitDefEqProofs only [go_sem, e1, e4]; first | done | fail)) (fun Q hq => by (simp -implicitDefEqProofs (disch := omega) only [go_sem, e1, e4]; exact hq)) ?_ | refine Tr_skip (.inl (by (simp -implicitDefEqProofs only [go_sem, e1, e4]; first | done | fail))) ?_ | refine Tr_skip (.inr (by (simp -implicitDefEqProofs only [go_sem, e1, e4]; first | done | fail))) ?_)
    refine To_nil ?_
    simp -implicitDefEqProofs (disch := omega) only [go_sem, e1, e4]
    exact hJ _ _ ⟨by (first | (simp -implicitDefEqProofs (disch := omega) only [go_sem, e1, e4]; done) | (simp -implicitDefEqProofs (disch := omega) only [go_sem, e1, e4]; rfl)), by (rw [hEx, if_pos hc, ← List.append_assoc]; (first | (simp -implicitDefEqProofs (disch := omega) only [go_sem, e1, e4]; done) | (simp -implicitDefEqProofs (disch := omega) only [go_sem, e1, e4]; rfl))), rfl⟩
  · simp -implicitDefEqProofs (disch := omega) only [go_sem, e1, e4]
    exact hJ _ _ ⟨by (first | (simp -implicitDefEqProofs (disch := omega) only [go_sem, e1, e4]; done) | (simp -implicitDefEqProofs (disch := omega) only [go_sem, e1, e4]; rfl)), by (rw [hEx, if_neg (by rw [hc]; simp), List.append_nil]; (first | (simp -implicitDefEqProofs (disch := omega) only [go_sem, e1, e4]; done) | (simp -implicitDefEqProofs (disch := omega) only [go_sem, e1, e4]; rfl))), rfl⟩
  rintro f h ⟨e1, e5, rfl⟩
  have hl1 : (B0 ++ E0).length ≤ 70000 := by rw [List.length_append]; omega
  generalize hY1 : B0 ++ E0 = Y1 at *
  simp -implicitDefEqProofs (disch := omega) only [go_sem, e1, e5]
  refine RCall_eq (rgz_has F 8 (by omega) (by omega)) ?_
  simp -implicitDefEqProofs (disch := omega) only [go_sem, e1, e5]
  have mY1 : (Y1 ++ nm).length ≤ 1000000 := by rw [List.length_append]; omega
  refine RC_join (fun f h => f 1 = .pointer (some ⟨g, 0, none⟩) ∧ f 5 = str (Y1 ++ N0) ∧ h = [.cells g 49 #[.int .i64 (T : Int), str ex, str nm, str nt, .int .i64 (L : Int), .int .i64 (O : Int), .bool tx, .bool sm, .int .i64 (F : Int)], .anchor w []]) (fun J hJ hc => ?_) (fun J hJ hc => ?_) ?_
  · simp -implicitDefEqProofs (disch := omega) only [go_sem, e1, e5, strV_add0]
    exact hJ _ _ ⟨by (first | (simp -implicitDefEqProofs (disch := omega) only [go_sem, e1, e5]; done) | (simp -implicitDefEqProofs (disch := omega) only [go_sem, e1, e5]; rfl)), by (rw [hNx, if_pos hc, ← List.append_assoc]; (first | (simp -implicitDefEqProofs (disch := omega) only [go_sem, e1, e5]; done) | (simp -implicitDefEqProofs (disch := omega) only [go_sem, e1, e5]; rfl))), rfl⟩
  · simp -implicitDefEqProofs (disch := omega) only [go_sem, e1, e5]
    exact hJ _ _ ⟨by (first | (simp -implicitDefEqProofs (disch := omega) only [go_sem, e1, e5]; done) | (simp -implicitDefEqProofs (disch := omega) only [go_sem, e1, e5]; rfl)), by (rw [hNx, if_neg (by rw [hc]; simp), List.append_nil]; (first | (simp -implicitDefEqProofs (disch := omega) only [go_sem, e1, e5]; done) | (simp -implicitDefEqProofs (disch := omega) only [go_sem, e1, e5]; rfl))), rfl⟩
  rintro f h ⟨e1, e5, rfl⟩
  have hlY1 : (Y1 ++ N0).length ≤ 200000 := by rw [List.length_append]; omega
  generalize hY2 : Y1 ++ N0 = Y2 at *
  simp -implicitDefEqProofs (disch := omega) only [go_sem, e1, e5]
  refine RCall_eq (rgz_has F 16 (by omega) (by omega)) ?_
  simp -implicitDefEqProofs (disch := omega) only [go_sem, e1, e5]
  have mY2 : (Y2 ++ nt).length ≤ 1000000 := by rw [List.length_append]; omega
  refine RC_join (fun f h => f 1 = .pointer (some ⟨g, 0, none⟩) ∧ f 5 = str (Y2 ++ M0) ∧ h = [.cells g 49 #[.int .i64 (T : Int), str ex, str nm, str nt, .int .i64 (L : Int), .int .i64 (O : Int), .bool tx, .bool sm, .int .i64 (F : Int)], .anchor w []]) (fun J hJ hc => ?_) (fun J hJ hc => ?_) ?_
  · simp -implicitDefEqProofs (disch := omega) only [go_sem, e1, e5, strV_add0]
    exact hJ _ _ ⟨by (first | (simp -implicitDefEqProofs (disch := omega) only [go_sem, e1, e5]; done) | (simp -implicitDefEqProofs (disch := omega) only [go_sem, e1, e5]; rfl)), by (rw [hMx, if_pos hc, ← List.append_assoc]; (first | (simp -implicitDefEqProofs (disch := omega) only [go_sem, e1, e5]; done) | (simp -implicitDefEqProofs (disch := omega) only [go_sem, e1, e5]; rfl))), rfl⟩
  · simp -implicitDefEqProofs (disch := omega) only [go_sem, e1, e5]
    exact hJ _ _ ⟨by (first | (simp -implicitDefEqProofs (disch := omega) only [go_sem, e1, e5]; done) | (simp -implicitDefEqProofs (disch := omega) only [go_sem, e1, e5]; rfl)), by (rw [hMx, if_neg (by rw [hc]; simp), List.append_nil]; (first | (simp -implicitDefEqProofs (disch := omega) only [go_sem, e1, e5]; done) | (simp -implicitDefEqProofs (disch := omega) only [go_sem, e1, e5]; rfl))), rfl⟩
  rintro f h ⟨e1, e5, rfl⟩
  have hlY2 : (Y2 ++ M0).length ≤ 400000 := by rw [List.length_append]; omega
  have hD : BD = Y2 ++ M0 := by rw [hbody, ← hY2]
  rw [← hD] at e5 hlY2
  cases sm with
  | true =>
    simp -implicitDefEqProofs (disch := omega) only [go_sem, e1, e5]
    refine RCall_eq (ref_of BD (by omega)) ?_
    have hs2 := sumOf_lt BD
    simp -implicitDefEqProofs (disch := omega) only [go_sem, e1, e5, sumOf_rem]
    refine RCall_eq (rgz_num_to (Gz.sumOf BD : Int) 2 _ (nb2 hs2) (by omega)) ?_
    have l7 : (Vint.fixL 2 (Gz.sumOf BD)).length ≤ 10 := by rw [Vint.fixL_len]; omega
    simp -implicitDefEqProofs (disch := omega) only [go_sem, e1, e5]
    exact hQ _ _ fun w' hs => ⟨rfl, hs.anchor (by simp)⟩
  | false =>
    simp -implicitDefEqProofs (disch := omega) only [go_sem, e1, e5]
    exact hQ _ _ fun w' hs => ⟨by unfold Gz.sumB; simp, hs.anchor (by simp)⟩
end Go.Proofs.Ytlmbebnpnnkhmaa
