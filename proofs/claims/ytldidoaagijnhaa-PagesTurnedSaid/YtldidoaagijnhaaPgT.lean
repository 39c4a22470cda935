/- pages' laws: the walks: a bit turned. -/
import Derived.Test.YtldidoaagijnhaaPgL
namespace Go.Proofs.Ytldidoaagijnhaa
set_option linter.unusedSimpArgs false
set_option linter.unusedVariables false
open H
set_option maxRecDepth 20000 in
set_option maxHeartbeats 4000000 in
theorem law_turn (s : List UInt8) (i : Nat) (b : UInt8) (hi : i < s.length) (hsm : s.length ≤ 1000000) (w : World) : Does Try.prog 16 #[str s, .int .i64 (i : Int), byte b] w fun v w' => v = str (tnB s i b) ∧ Ext [] w w' := by
  refine does (args := [str s, .int .i64 (i : Int), byte b]) Try.func16 rfl (by kernel_rfl) (by kernel_rfl) rfl ent_16 (Sat.start w []) ?_; intro QV hQ
  have k0 : decide ((s.length : Int) = 0) = false := decide_eq_false (by omega)
  have hpos : pos (i : Int) % (s.length : Int) = (i : Int) := by
    unfold pos
    rw [if_neg (by omega)]
    exact Int.emod_eq_of_lt (by omega) (by omega)
  have e1 : (i : Int) + 1 = ((i + 1 : Nat) : Int) := by omega
  have l1 : (s.take i).length = i := by rw [List.length_take]; omega
  have l2 : (s.drop (i + 1)).length ≤ 1000000 := by rw [List.length_drop]; omega
  simp -implicitDefEqProofs (disch := omega) only [go_sem, k0]
  refine RCall_eq (words_count (i : Int) (s.length : Int) (by omega) (by omega)) ?_
  rw [hpos]
  obtain ⟨x, hx⟩ : ∃ x, x = s.getD i 0 ^^^ shl8 1 (b % 8).toNat := ⟨_, rfl⟩
  have hm := mod8_lt b
  have hxx := hx.symm
  have l3 : (s.take i ++ [x]).length = i + 1 := by rw [List.length_append, l1]; rfl
  simp -implicitDefEqProofs (disch := omega) only [go_sem]
  refine RDraw_seg (by kernel_rfl) (by kernel_rfl) 19 rfl ?_
  refine RS_cutR [0, 1, 2, 3, 4, 5, 6, 7, 8, 9, 13, 14, 15, 16] [10, 11, 12, 17, 18] (by decide +kernel) ?_
  refine RS_det (by kernel_rfl) ?_
  repeat (first | refine ToO_step (fun Q hq => by (simp -implicitDefEqProofs (disch := omega) only [go_sem, RB_u8_rem8, RB_u8_shlb, e1, hxx]; exact hq)) ?_ | refine ToO_guard (by (simp -implicitDefEqProofs only [go_sem, RB_u8_rem8, RB_u8_shlb, e1, hxx]; first | done | fail)) (fun Q hq => by (simp -implicitDefEqProofs (disch := omega) only [go_sem, RB_u8_rem8, RB_u8_shlb, e1, hxx]; exact hq)) ?_ | refine ToO_skip (.inl (by (simp -implicitDefEqProofs only [go_sem, RB_u8_rem8, RB_u8_shlb, e1, hxx]; first | done | fail))) ?_ | refine ToO_skip (.inr (by (simp -implicitDefEqProofs only [go_sem, RB_u8_rem8, RB_u8_shlb, e1, hxx]; first | done | fail))) ?_)
  refine ToO_nil ?_
  refine RS_text (by kernel_rfl) ?_
  simp -implicitDefEqProofs (disch := omega) only [go_sem]
  refine RRun_build1 bytes_sl rfl fun g hg => ?_
  simp -implicitDefEqProofs (disch := omega) only [go_sem]
  refine RRun_str_row0 (l := [x]) bytes_t Try.underlying9 rfl ?_
  have b1 : strV .add ⟨(s.take i).toArray⟩ ⟨#[x]⟩ = some (str (s.take i ++ [x])) := strV_add (s.take i) [x] (by simp; omega)
  simp -implicitDefEqProofs (disch := omega) only [go_sem, b1]
  exact hQ _ _ fun w' hs => ⟨by rw [hx, tnB_eq hi], hs.anchor (by simp)⟩
theorem at_string {w : World} {a : Option Addr} {l : List (List UInt8)} (hr : Rd w a l.length 1 (ofL (fun x => [str x]) [] l)) (i : Nat) (hi : i < l.length) : ∃ b o, a = some ⟨b, o, none⟩ ∧ b < w.heap.size ∧ w.cell? ⟨b, o + i, none⟩ = some (str (l.getD i [])) := by
  obtain ⟨b, o, e, hb, _, hc⟩ := hr.at_ i hi
  refine ⟨b, o, e, hb, ?_⟩
  have := hc 0 (by omega)
  rw [Nat.mul_one, Nat.add_zero] at this
  exact this
theorem first_le (n : Nat) : (Pg.first n []).length ≤ 252 := by have := Pg.first_len (n := n) (hd := []) (by simp); omega
set_option maxRecDepth 20000 in
set_option maxHeartbeats 16000000 in
theorem law_pturned (l : List (List UInt8)) (a : Option Addr) (c : Nat) (hl : l.length ≤ 9223372036854775807) (at_ : Int) (hat : -9223372036854775808 ≤ at_ ∧ at_ ≤ 9223372036854775807) (b : UInt8) (w : World) (hr : Rd w a l.length 1 (ofL (fun x => [str x]) [] l)) :
    Does Try.prog 3 #[.slice a l.length c, .int .i64 at_, byte b] w fun v w' => v = .bool true ∧ Ext [] w w' := by
  refine does (args := [.slice a l.length c, .int .i64 at_, byte b]) Try.func3 rfl (by kernel_rfl) (by kernel_rfl) rfl ent_3 (Sat.start w []) ?_; intro QV hQ
  simp -implicitDefEqProofs (disch := omega) only [go_sem]
  refine RCall_newS (fun w1 hs => pages_new w1) ?_
  rintro _ _ ⟨gf, gb, ng, rfl, rfl⟩ hsx
  have hgb : w.heap.size ≤ gb := cells_ge hsx (by simp)
  have hgf : w.heap.size ≤ gf := by obtain ⟨w9, h9⟩ := hsx; exact cells_ge ⟨w9, h9.2.2.2⟩ (by simp)
  simp -implicitDefEqProofs (disch := omega) only [go_sem, Option.isNone_some]
  refine RLoop_from (fun f h => ∃ (i n : Nat) (R : List UInt8) (gb : Nat) (sp : List Value), i ≤ 12 ∧ i ≤ l.length ∧ n ≤ i ∧ Pg.Good R n ∧ gf ≠ gb ∧ w.heap.size ≤ gb ∧ f 0 = .slice a l.length c ∧ f 1 = .int .i64 at_ ∧ f 2 = byte b ∧ f 7 = .pointer (some ⟨gf, 0, none⟩) ∧ f 8 = .int .i64 (n : Int) ∧ f 9 = .int .i64 (i : Int) ∧
    h = [.cells gb 5 ((Pg.pg (Pg.first (n + 1) []) ++ R).map byte ++ sp).toArray, .cells gf 62 #[.slice (some ⟨gb, 0, none⟩) (256 * (n + 1)) (256 * (n + 1) + sp.length), str [], .int .i64 0], .anchor w []]) (fun f _ => (12 - ival (f 9)).toNat) ?_ ?_
  · exact fun w1 hs => ⟨_, hs, 0, 0, [], gb, [], by omega, by omega, by omega, Pg.good_nil, ng, hgb, by (first | (simp -implicitDefEqProofs (disch := omega) only [go_sem]; done) | (simp -implicitDefEqProofs (disch := omega) only [go_sem]; rfl)), by (first | (simp -implicitDefEqProofs (disch := omega) only [go_sem]; done) | (simp -implicitDefEqProofs (disch := omega) only [go_sem]; rfl)), by (first | (simp -implicitDefEqProofs (disch := omega) only [go_sem]; done) | (simp -implicitDefEqProofs (disch := omega) only [go_sem]; rfl)), by (first | (simp -implicitDefEqProofs (disch := omega) only [go_sem]; done) | (simp -implicitDefEqProofs (disch := omega) only [go_sem]; rfl)), by (first | (simp -implicitDefEqProofs (disch := omega) only [go_sem]; done) | (simp -implicitDefEqProofs (disch := omega) only [go_sem]; rfl)), by (first | (simp -implicitDefEqProofs (disch := omega) only [go_sem]; done) | (simp -implicitDefEqProofs (disch := omega) only [go_sem]; rfl)), by simp only [List.append_nil]; rfl⟩
  clear hsx hgb ng gb
  rintro f h ⟨i, n, R, gb, sp, hi, hil, hni, hG, ng, hgb, e0, e1, e2, e7, e8, e9, rfl⟩ Q' hQ'
  by_cases hc1 : i < l.length ∧ i < 12
  · obtain ⟨hil', hi12⟩ := hc1
    have k1 : decide ((i : Int) < (l.length : Int)) = true := decide_eq_true (by omega)
    have k2 : decide ((i : Int) < 12) = true := decide_eq_true (by omega)
    obtain ⟨bb, oo, rfl, hbb, hcell⟩ := at_string hr i hil'
    generalize hx : l.getD i [] = x at *
    have n1 : bb ≠ gb := by omega
    have n2 : bb ≠ gf := by omega
    by_cases hxl : x.length ≤ 252
    rotate_left
    · have k3 : decide ((252 : Int) < (x.length : Int)) = true := decide_eq_true (by omega)
      simp -implicitDefEqProofs (disch := omega) only [go_sem, e0, e1, e2, e7, e8, e9, k1, k2, hcell, k3]
      refine hQ' _ _ fun w1 hs => ⟨_, hs, ⟨i + 1, n, R, gb, sp, by omega, by omega, by omega, hG, ng, hgb, by (first | (simp -implicitDefEqProofs (disch := omega) only [go_sem, e0, e1, e2, e7, e8, e9]; done) | (simp -implicitDefEqProofs (disch := omega) only [go_sem, e0, e1, e2, e7, e8, e9]; rfl)), by (first | (simp -implicitDefEqProofs (disch := omega) only [go_sem, e0, e1, e2, e7, e8, e9]; done) | (simp -implicitDefEqProofs (disch := omega) only [go_sem, e0, e1, e2, e7, e8, e9]; rfl)), by (first | (simp -implicitDefEqProofs (disch := omega) only [go_sem, e0, e1, e2, e7, e8, e9]; done) | (simp -implicitDefEqProofs (disch := omega) only [go_sem, e0, e1, e2, e7, e8, e9]; rfl)), by (first | (simp -implicitDefEqProofs (disch := omega) only [go_sem, e0, e1, e2, e7, e8, e9]; done) | (simp -implicitDefEqProofs (disch := omega) only [go_sem, e0, e1, e2, e7, e8, e9]; rfl)), by (first | (simp -implicitDefEqProofs (disch := omega) only [go_sem, e0, e1, e2, e7, e8, e9]; done) | (simp -implicitDefEqProofs (disch := omega) only [go_sem, e0, e1, e2, e7, e8, e9]; rfl)), by (first | (simp -implicitDefEqProofs (disch := omega) only [go_sem]; done) | (simp -implicitDefEqProofs (disch := omega) only [go_sem]; rfl)), rfl⟩, ?_⟩
      simp -implicitDefEqProofs (disch := omega) only [go_sem, e0, e1, e2, e7, e8, e9]; omega
    have k3 : decide ((252 : Int) < (x.length : Int)) = false := decide_eq_false (by omega)
    simp -implicitDefEqProofs (disch := omega) only [go_sem, e0, e1, e2, e7, e8, e9, k1, k2, hcell, k3]
    refine RCall_frameS [.cells gb 5 ((Pg.pg (Pg.first (n + 1) []) ++ R).map byte ++ sp).toArray, .cells gf 62 #[.slice (some ⟨gb, 0, none⟩) (256 * (n + 1)) (256 * (n + 1) + sp.length), str [], .int .i64 0]] [.anchor w []] [gb, gf] (fun _ h => h) (by simp [Res.fp]) (fun w1 hs => call_add n (by omega) [] R x (by simp) hG.1 hxl gf gb ng sp 0 _ w1 hs) ?_
    rintro _ _ ⟨gb2, sp2, ng2, rfl, rfl⟩ hsy
    have hgb2 : w.heap.size ≤ gb2 := cells_ge hsy (by simp)
    have k4 : decide (((n + 1 : Nat) : Int) = (n : Int) + 1) = true := decide_eq_true (by omega)
    simp -implicitDefEqProofs (disch := omega) only [go_sem, e0, e1, e2, e7, e8, e9, k4, decide_true]
    refine hQ' _ _ fun w1 hs => ⟨_, hs, ⟨i + 1, n + 1, R ++ Pg.pg x, gb2, sp2, by omega, by omega, by omega, Pg.good_add hG hxl, ng2, hgb2, by (first | (simp -implicitDefEqProofs (disch := omega) only [go_sem, e0, e1, e2, e7, e8, e9]; done) | (simp -implicitDefEqProofs (disch := omega) only [go_sem, e0, e1, e2, e7, e8, e9]; rfl)), by (first | (simp -implicitDefEqProofs (disch := omega) only [go_sem, e0, e1, e2, e7, e8, e9]; done) | (simp -implicitDefEqProofs (disch := omega) only [go_sem, e0, e1, e2, e7, e8, e9]; rfl)), by (first | (simp -implicitDefEqProofs (disch := omega) only [go_sem, e0, e1, e2, e7, e8, e9]; done) | (simp -implicitDefEqProofs (disch := omega) only [go_sem, e0, e1, e2, e7, e8, e9]; rfl)), by (first | (simp -implicitDefEqProofs (disch := omega) only [go_sem, e0, e1, e2, e7, e8, e9]; done) | (simp -implicitDefEqProofs (disch := omega) only [go_sem, e0, e1, e2, e7, e8, e9]; rfl)), by (first | (simp -implicitDefEqProofs (disch := omega) only [go_sem, e0, e1, e2, e7, e8, e9]; done) | (simp -implicitDefEqProofs (disch := omega) only [go_sem, e0, e1, e2, e7, e8, e9]; rfl)), by (first | (simp -implicitDefEqProofs (disch := omega) only [go_sem]; done) | (simp -implicitDefEqProofs (disch := omega) only [go_sem]; rfl)), rfl⟩, ?_⟩
    simp -implicitDefEqProofs (disch := omega) only [go_sem, e0, e1, e2, e7, e8, e9]; omega
  have hend : ∀ P : Prop, (decide ((i : Int) < (l.length : Int)) = false → P) → (decide ((i : Int) < (l.length : Int)) = true → decide ((i : Int) < 12) = false → P) → P := by
    intro P h1 h2
    by_cases h : i < l.length
    · exact h2 (decide_eq_true (by omega)) (decide_eq_false (by omega))
    · exact h1 (decide_eq_false (by omega))
  have hL := file_len (n := n) (hd := []) (R := R) (by simp) hG.1
  have hP0 : (Pg.pg (Pg.first (n + 1) [])).length = 256 := Pg.pg_len (first_le _)
  have hpage : ∀ j, Pg.page (Pg.pg (Pg.first (n + 1) []) ++ R) (j + 1) = Pg.pageR R j := fun j => Pg.page_file hP0 j
  have htk : (Pg.pg (Pg.first (n + 1) []) ++ R).take 256 = Pg.pg (Pg.first (n + 1) []) := List.take_left' hP0
  have hdr : (Pg.pg (Pg.first (n + 1) []) ++ R).drop 256 = R := List.drop_left' hP0
  have hon : ∀ R' : List UInt8, R'.length = 256 * n → Pg.opn (Pg.pg (Pg.first (n + 1) []) ++ R') = ([], 0) := fun R' h => Pg.open_file (by omega) (by simp) h
  have hpage' : ∀ (R' : List UInt8) j, Pg.page (Pg.pg (Pg.first (n + 1) []) ++ R') (j + 1) = Pg.pageR R' j := fun R' j => Pg.page_file hP0 j
  obtain ⟨m, hm⟩ : ∃ m, m = 256 * (n + 1) := ⟨_, rfl⟩
  rw [← hm] at hL ⊢
  generalize hL0 : Pg.pg (Pg.first (n + 1) []) = P0 at *
  have hR1 := hG.1
  have htext : ∀ w1 h, Sat w1 h → Res.cells gb 5 ((P0 ++ R).map byte ++ sp).toArray ∈ h → Res.cells gf 62 #[.slice (some ⟨gb, 0, none⟩) m (m + sp.length), str [], .int .i64 0] ∈ h →
      Does Try.prog 12 #[.pointer (some ⟨gf, 0, none⟩)] w1 fun v w' => v = str (P0 ++ R) ∧ Ext [] w1 w' := fun w1 h hs m1 m2 => pages_text gf gb (P0 ++ R) (m + sp.length) (by omega) [] 0 w1 (by rw [hL]; exact Pg.at_of hs m2) (Pg.has_of hs m1)

  refine hend _ (fun k1 => ?_) (fun k1 k2 => ?_)
  · simp -implicitDefEqProofs (disch := omega) only [go_sem, e0, e1, e2, e7, e8, e9, k1]
    refine RCall_eqS (fun w1 hs => htext w1 _ hs (by simp) (by simp)) ?_
    by_cases hn0 : n = 0
    · have k0 : decide ((n : Int) = 0) = true := decide_eq_true (by omega)
      simp -implicitDefEqProofs (disch := omega) only [go_sem, e0, e1, e2, e7, e8, e9, k0]
      refine RCall_eq pages_known ?_
      simp -implicitDefEqProofs (disch := omega) only [go_sem]
      exact hQ _ _ fun w' hs => ⟨rfl, hs.anchor (by simp)⟩
    have k0 : decide ((n : Int) = 0) = false := decide_eq_false (by omega)
    have l9 : (P0 ++ R).length = m := hL
    have k5 : decide (((P0 ++ R).length : Int) = 256 * ((n : Int) + 1)) = true := decide_eq_true (by omega)
    simp -implicitDefEqProofs (disch := omega) only [go_sem, e0, e1, e2, e7, e8, e9, k0, k5]
    refine RCall_eq (words_count at_ (256 * (n : Int)) hat (by omega)) ?_
    have hk0 := Int.emod_nonneg (pos at_) (show (256 * (n : Int)) ≠ 0 by omega)
    have hk1 := Int.emod_lt_of_pos (pos at_) (show (0 : Int) < 256 * (n : Int) by omega)
    obtain ⟨k, hk⟩ := Int.eq_ofNat_of_zero_le hk0
    rw [hk] at hk1 ⊢
    have hkR : k < R.length := by omega
    simp -implicitDefEqProofs (disch := omega) only [go_sem, e0, e1, e2, e7, e8, e9]
    refine RDraw_seg (by kernel_rfl) (by kernel_rfl) 14 rfl ?_
    refine RS_cutR [0, 1, 2, 3, 4, 5, 6, 7] [8, 9, 10, 11, 12, 13] (by decide +kernel) ?_
    refine RS_det (by kernel_rfl) ?_
    have l10 : (tnB R k b).length = 256 * n := by rw [tnB_len]; exact hR1
    repeat (first | refine ToO_step (fun Q hq => by (simp -implicitDefEqProofs (disch := omega) only [go_sem, e0, e1, e2, e7, e8, e9, Int.reduceToNat, htk, hdr]; exact hq)) ?_ | refine ToO_guard (by (simp -implicitDefEqProofs only [go_sem, e0, e1, e2, e7, e8, e9, Int.reduceToNat, htk, hdr]; first | done | fail)) (fun Q hq => by (simp -implicitDefEqProofs (disch := omega) only [go_sem, e0, e1, e2, e7, e8, e9, Int.reduceToNat, htk, hdr]; exact hq)) ?_ | refine ToO_skip (.inl (by (simp -implicitDefEqProofs only [go_sem, e0, e1, e2, e7, e8, e9, Int.reduceToNat, htk, hdr]; first | done | fail))) ?_ | refine ToO_skip (.inr (by (simp -implicitDefEqProofs only [go_sem, e0, e1, e2, e7, e8, e9, Int.reduceToNat, htk, hdr]; first | done | fail))) ?_)
    first | refine ToO_step (fun Q hq => by (simp -implicitDefEqProofs (disch := omega) only [go_sem, e0, e1, e2, e7, e8, e9]; refine RCall_eq (law_turn R k b hkR (by omega)) ?_; simp -implicitDefEqProofs (disch := omega) only [go_sem, e0, e1, e2, e7, e8, e9]; exact hq)) ?_ | refine ToO_guard (by (simp -implicitDefEqProofs only [go_sem, e0, e1, e2, e7, e8, e9]; first | done | fail)) (fun Q hq => by (simp -implicitDefEqProofs (disch := omega) only [go_sem, e0, e1, e2, e7, e8, e9]; refine RCall_eq (law_turn R k b hkR (by omega)) ?_; simp -implicitDefEqProofs (disch := omega) only [go_sem, e0, e1, e2, e7, e8, e9]; exact hq)) ?_
    repeat (first | refine ToO_step (fun Q hq => by (simp -implicitDefEqProofs (disch := omega) only [go_sem]; exact hq)) ?_ | refine ToO_guard (by (simp -implicitDefEqProofs only [go_sem]; first | done | fail)) (fun Q hq => by (simp -implicitDefEqProofs (disch := omega) only [go_sem]; exact hq)) ?_ | refine ToO_skip (.inl (by (simp -implicitDefEqProofs only [go_sem]; first | done | fail))) ?_ | refine ToO_skip (.inr (by (simp -implicitDefEqProofs only [go_sem]; first | done | fail))) ?_)
    refine ToO_nil ?_
    refine RS_first [8] (by kernel_rfl) ⟨?_, trivial⟩
    have l11 : (P0 ++ tnB R k b).length = m := by rw [List.length_append, l10]; omega
    simp -implicitDefEqProofs (disch := omega) only [go_sem]
    refine RCall_newS (fun w1 hs => pages_open (P0 ++ tnB R k b) (by omega) w1) ?_
    rintro v rs (⟨h0, go, gob, spo, ngo, rfl, rfl⟩ | ⟨h0, _⟩) hsz
    rotate_left
    · rw [hon _ l10] at h0; exact absurd rfl h0
    rw [hon _ l10, l11]
    simp -implicitDefEqProofs (disch := omega) only [go_sem]
    refine RS_det (L := [9, 10, 11, 12, 13]) (by kernel_rfl) ?_
    repeat (first | refine ToO_step (fun Q hq => by (simp -implicitDefEqProofs (disch := omega) only [go_sem]; exact hq)) ?_ | refine ToO_guard (by (simp -implicitDefEqProofs only [go_sem]; first | done | fail)) (fun Q hq => by (simp -implicitDefEqProofs (disch := omega) only [go_sem]; exact hq)) ?_ | refine ToO_skip (.inl (by (simp -implicitDefEqProofs only [go_sem]; first | done | fail))) ?_ | refine ToO_skip (.inr (by (simp -implicitDefEqProofs only [go_sem]; first | done | fail))) ?_)
    refine ToO_nil ?_
    obtain ⟨kq, hkq⟩ : ∃ kq, kq = k / 256 := ⟨_, rfl⟩
    have hkquo : (k : Int).tdiv 256 = (kq : Int) := by rw [Int.tdiv_eq_ediv_of_nonneg (by omega), hkq]; rfl
    have hkqn : kq < n := by omega
    simp -implicitDefEqProofs (disch := omega) only [go_sem, decide_true, Option.isNone_some]
    refine RLoop_from (fun f h => ∃ (j : Nat), 1 ≤ j ∧ j ≤ n + 1 ∧ f 7 = .pointer (some ⟨gf, 0, none⟩) ∧ f 8 = .int .i64 (n : Int) ∧ f 13 = .int .i64 (k : Int) ∧ f 14 = .pointer (some ⟨go, 0, none⟩) ∧ f 16 = .int .i64 (j : Int) ∧
      h = [.cells gob 5 ((P0 ++ tnB R k b).map byte ++ spo).toArray, .cells go 62 #[.slice (some ⟨gob, 0, none⟩) m (m + spo.length), str [], .int .i64 ((j - 1 : Nat) : Int)],
        .cells gb 5 ((P0 ++ R).map byte ++ sp).toArray, .cells gf 62 #[.slice (some ⟨gb, 0, none⟩) m (m + sp.length), str [], .int .i64 ((j - 1 : Nat) : Int)], .anchor w []]) (fun f _ => (n + 1 - ival (f 16)).toNat) ?_ ?_
    · exact fun w1 hs => ⟨_, hs, 1, by omega, by omega, by (first | (simp -implicitDefEqProofs (disch := omega) only [go_sem, e0, e1, e2, e7, e8, e9]; done) | (simp -implicitDefEqProofs (disch := omega) only [go_sem, e0, e1, e2, e7, e8, e9]; rfl)), by (first | (simp -implicitDefEqProofs (disch := omega) only [go_sem, e0, e1, e2, e7, e8, e9]; done) | (simp -implicitDefEqProofs (disch := omega) only [go_sem, e0, e1, e2, e7, e8, e9]; rfl)), by (first | (simp -implicitDefEqProofs (disch := omega) only [go_sem, e0, e1, e2, e7, e8, e9]; done) | (simp -implicitDefEqProofs (disch := omega) only [go_sem, e0, e1, e2, e7, e8, e9]; rfl)), by (first | (simp -implicitDefEqProofs (disch := omega) only [go_sem]; done) | (simp -implicitDefEqProofs (disch := omega) only [go_sem]; rfl)), by (first | (simp -implicitDefEqProofs (disch := omega) only [go_sem]; done) | (simp -implicitDefEqProofs (disch := omega) only [go_sem]; rfl)), rfl⟩
    rintro f h ⟨j, hj1, hjn, e7, e8, e13, e14, e16, rfl⟩ Q2 hQ2
    by_cases hjle : j ≤ n
    rotate_left
    · have k6 : decide ((j : Int) ≤ (n : Int)) = false := decide_eq_false (by omega)
      simp -implicitDefEqProofs (disch := omega) only [go_sem, e7, e8, e13, e14, e16, k6]
      refine RCall_eq pages_known ?_
      simp -implicitDefEqProofs (disch := omega) only [go_sem]
      exact hQ _ _ fun w' hs => ⟨rfl, hs.anchor (by simp)⟩
    have k6 : decide ((j : Int) ≤ (n : Int)) = true := decide_eq_true (by omega)
    obtain ⟨jj, rfl⟩ : ∃ jj, j = jj + 1 := ⟨j - 1, by omega⟩
    obtain ⟨p, hp, hpj⟩ := hG.2 jj (by omega)
    have hj9 : (1 : Int) ≤ ((jj + 1 : Nat) : Int) ∧ ((jj + 1 : Nat) : Int) < ((n + 1 : Nat) : Int) := ⟨by omega, by omega⟩
    have hrd1 : Pg.rd (Pg.page (P0 ++ R) (jj + 1)) = (Pg.pad p, 0) := by rw [hpage, hpj, Pg.rd_pg hp]
    have hrd2 : Pg.rd (Pg.page (P0 ++ tnB R k b) (jj + 1)) = if kq = jj then ([], 5) else (Pg.pad p, 0) := by
      rw [hpage', Pg.pageR_turn hR1 (by omega) b, hpj, ← hkq]
      split
      · rw [Pg.rd_turn hp (Nat.mod_lt _ (by decide))]
      · rw [Pg.rd_pg hp]
    simp -implicitDefEqProofs (disch := omega) only [go_sem, e7, e8, e13, e14, e16, k6]
    refine RCall_frame [.cells gb 5 ((P0 ++ R).map byte ++ sp).toArray, .cells gf 62 #[.slice (some ⟨gb, 0, none⟩) m (m + sp.length), str [], .int .i64 ((jj + 1 - 1 : Nat) : Int)]] [.cells gob 5 ((P0 ++ tnB R k b).map byte ++ spo).toArray, .cells go 62 #[.slice (some ⟨gob, 0, none⟩) m (m + spo.length), str [], .int .i64 ((jj + 1 - 1 : Nat) : Int)], .anchor w []] [gb, gf]
      (fun _ h => h.perm (by refine (List.Perm.trans (List.perm_append_comm (l₁ := [_, _]) (l₂ := [_, _, _])) ?_); exact List.Perm.cons _ (List.Perm.cons _ ((List.perm_append_comm (l₁ := [_]) (l₂ := [_, _]))))) ) (by simp [Res.fp]) (fun w1 hs => call_read ((jj + 1 : Nat) : Int) n (P0 ++ R) [] (by omega) (by omega) gf gb ng m hm sp ((jj + 1 - 1 : Nat) : Int) (by omega) _ w1 hs) ?_
    rintro _ _ ⟨rfl, rfl⟩
    rw [if_pos hj9, if_pos hj9, Int.toNat_natCast, hrd1]
    simp -implicitDefEqProofs (disch := omega) only [go_sem, e7, e8, e13, e14, e16]
    refine RCall_frame [.cells gob 5 ((P0 ++ tnB R k b).map byte ++ spo).toArray, .cells go 62 #[.slice (some ⟨gob, 0, none⟩) m (m + spo.length), str [], .int .i64 ((jj + 1 - 1 : Nat) : Int)]] [.cells gb 5 ((P0 ++ R).map byte ++ sp).toArray, .cells gf 62 #[.slice (some ⟨gb, 0, none⟩) m (m + sp.length), str [], .int .i64 (((jj + 1 - 1 : Nat) : Int) + 1)], .anchor w []] [gob, go]
      (fun _ h => h.perm (by refine (List.Perm.trans (List.perm_append_comm (l₁ := [_, _]) (l₂ := [_, _, _])) ?_); exact List.Perm.cons _ (List.Perm.cons _ ((List.perm_append_comm (l₁ := [_]) (l₂ := [_, _]))))) ) (by simp [Res.fp]) (fun w1 hs => call_read ((jj + 1 : Nat) : Int) n (P0 ++ tnB R k b) [] (by omega) (by omega) go gob ngo m hm spo ((jj + 1 - 1 : Nat) : Int) (by omega) _ w1 hs) ?_
    rintro _ _ ⟨rfl, rfl⟩
    rw [if_pos hj9, if_pos hj9, Int.toNat_natCast, hrd2]
    have hjj : ((jj + 1 - 1 : Nat) : Int) + 1 = ((jj + 1 + 1 - 1 : Nat) : Int) := by omega
    by_cases hkj : kq = jj
    · rw [if_pos hkj]
      have k7 : decide (((jj + 1 : Nat) : Int) = 1 + (kq : Int)) = true := decide_eq_true (by omega)
      simp -implicitDefEqProofs (disch := omega) only [go_sem, e7, e8, e13, e14, e16, hkquo, k7, decide_true]
      refine hQ2 _ _ fun w1 hs => ⟨_, hs, ⟨jj + 2, by omega, by omega, by (first | (simp -implicitDefEqProofs (disch := omega) only [go_sem, e7, e8, e13, e14, e16]; done) | (simp -implicitDefEqProofs (disch := omega) only [go_sem, e7, e8, e13, e14, e16]; rfl)), by (first | (simp -implicitDefEqProofs (disch := omega) only [go_sem, e7, e8, e13, e14, e16]; done) | (simp -implicitDefEqProofs (disch := omega) only [go_sem, e7, e8, e13, e14, e16]; rfl)), by (first | (simp -implicitDefEqProofs (disch := omega) only [go_sem, e7, e8, e13, e14, e16]; done) | (simp -implicitDefEqProofs (disch := omega) only [go_sem, e7, e8, e13, e14, e16]; rfl)), by (first | (simp -implicitDefEqProofs (disch := omega) only [go_sem, e7, e8, e13, e14, e16]; done) | (simp -implicitDefEqProofs (disch := omega) only [go_sem, e7, e8, e13, e14, e16]; rfl)), by (first | (simp -implicitDefEqProofs (disch := omega) only [go_sem]; done) | (simp -implicitDefEqProofs (disch := omega) only [go_sem]; rfl)), by rw [hjj]⟩, ?_⟩
      simp -implicitDefEqProofs (disch := omega) only [go_sem, e16]; omega
    · rw [if_neg hkj]
      have k7 : decide (((jj + 1 : Nat) : Int) = 1 + (kq : Int)) = false := decide_eq_false (by omega)
      simp -implicitDefEqProofs (disch := omega) only [go_sem, e7, e8, e13, e14, e16, hkquo, k7, decide_true]
      refine hQ2 _ _ fun w1 hs => ⟨_, hs, ⟨jj + 2, by omega, by omega, by (first | (simp -implicitDefEqProofs (disch := omega) only [go_sem, e7, e8, e13, e14, e16]; done) | (simp -implicitDefEqProofs (disch := omega) only [go_sem, e7, e8, e13, e14, e16]; rfl)), by (first | (simp -implicitDefEqProofs (disch := omega) only [go_sem, e7, e8, e13, e14, e16]; done) | (simp -implicitDefEqProofs (disch := omega) only [go_sem, e7, e8, e13, e14, e16]; rfl)), by (first | (simp -implicitDefEqProofs (disch := omega) only [go_sem, e7, e8, e13, e14, e16]; done) | (simp -implicitDefEqProofs (disch := omega) only [go_sem, e7, e8, e13, e14, e16]; rfl)), by (first | (simp -implicitDefEqProofs (disch := omega) only [go_sem, e7, e8, e13, e14, e16]; done) | (simp -implicitDefEqProofs (disch := omega) only [go_sem, e7, e8, e13, e14, e16]; rfl)), by (first | (simp -implicitDefEqProofs (disch := omega) only [go_sem]; done) | (simp -implicitDefEqProofs (disch := omega) only [go_sem]; rfl)), by rw [hjj]⟩, ?_⟩
      simp -implicitDefEqProofs (disch := omega) only [go_sem, e16]; omega
  · simp -implicitDefEqProofs (disch := omega) only [go_sem, e0, e1, e2, e7, e8, e9, k1, k2]
    refine RCall_eqS (fun w1 hs => htext w1 _ hs (by simp) (by simp)) ?_
    by_cases hn0 : n = 0
    · have k0 : decide ((n : Int) = 0) = true := decide_eq_true (by omega)
      simp -implicitDefEqProofs (disch := omega) only [go_sem, e0, e1, e2, e7, e8, e9, k0]
      refine RCall_eq pages_known ?_
      simp -implicitDefEqProofs (disch := omega) only [go_sem]
      exact hQ _ _ fun w' hs => ⟨rfl, hs.anchor (by simp)⟩
    have k0 : decide ((n : Int) = 0) = false := decide_eq_false (by omega)
    have l9 : (P0 ++ R).length = m := hL
    have k5 : decide (((P0 ++ R).length : Int) = 256 * ((n : Int) + 1)) = true := decide_eq_true (by omega)
    simp -implicitDefEqProofs (disch := omega) only [go_sem, e0, e1, e2, e7, e8, e9, k0, k5]
    refine RCall_eq (words_count at_ (256 * (n : Int)) hat (by omega)) ?_
    have hk0 := Int.emod_nonneg (pos at_) (show (256 * (n : Int)) ≠ 0 by omega)
    have hk1 := Int.emod_lt_of_pos (pos at_) (show (0 : Int) < 256 * (n : Int) by omega)
    obtain ⟨k, hk⟩ := Int.eq_ofNat_of_zero_le hk0
    rw [hk] at hk1 ⊢
    have hkR : k < R.length := by omega
    simp -implicitDefEqProofs (disch := omega) only [go_sem, e0, e1, e2, e7, e8, e9]
    refine RDraw_seg (by kernel_rfl) (by kernel_rfl) 14 rfl ?_
    refine RS_cutR [0, 1, 2, 3, 4, 5, 6, 7] [8, 9, 10, 11, 12, 13] (by decide +kernel) ?_
    refine RS_det (by kernel_rfl) ?_
    have l10 : (tnB R k b).length = 256 * n := by rw [tnB_len]; exact hR1
    repeat (first | refine ToO_step (fun Q hq => by (simp -implicitDefEqProofs (disch := omega) only [go_sem, e0, e1, e2, e7, e8, e9, Int.reduceToNat, htk, hdr]; exact hq)) ?_ | refine ToO_guard (by (simp -implicitDefEqProofs only [go_sem, e0, e1, e2, e7, e8, e9, Int.reduceToNat, htk, hdr]; first | done | fail)) (fun Q hq => by (simp -implicitDefEqProofs (disch := omega) only [go_sem, e0, e1, e2, e7, e8, e9, Int.reduceToNat, htk, hdr]; exact hq)) ?_ | refine ToO_skip (.inl (by (simp -implicitDefEqProofs only [go_sem, e0, e1, e2, e7, e8, e9, Int.reduceToNat, htk, hdr]; first | done | fail))) ?_ | refine ToO_skip (.inr (by (simp -implicitDefEqProofs only [go_sem, e0, e1, e2, e7, e8, e9, Int.reduceToNat, htk, hdr]; first | done | fail))) ?_)
    first | refine ToO_step (fun Q hq => by (simp -implicitDefEqProofs (disch := omega) only [go_sem, e0, e1, e2, e7, e8, e9]; refine RCall_eq (law_turn R k b hkR (by omega)) ?_; simp -implicitDefEqProofs (disch := omega) only [go_sem, e0, e1, e2, e7, e8, e9]; exact hq)) ?_ | refine ToO_guard (by (simp -implicitDefEqProofs only [go_sem, e0, e1, e2, e7, e8, e9]; first | done | fail)) (fun Q hq => by (simp -implicitDefEqProofs (disch := omega) only [go_sem, e0, e1, e2, e7, e8, e9]; refine RCall_eq (law_turn R k b hkR (by omega)) ?_; simp -implicitDefEqProofs (disch := omega) only [go_sem, e0, e1, e2, e7, e8, e9]; exact hq)) ?_
    repeat (first | refine ToO_step (fun Q hq => by (simp -implicitDefEqProofs (disch := omega) only [go_sem]; exact hq)) ?_ | refine ToO_guard (by (simp -implicitDefEqProofs only [go_sem]; first | done | fail)) (fun Q hq => by (simp -implicitDefEqProofs (disch := omega) only [go_sem]; exact hq)) ?_ | refine ToO_skip (.inl (by (simp -implicitDefEqProofs only [go_sem]; first | done | fail))) ?_ | refine ToO_skip (.inr (by (simp -implicitDefEqProofs only [go_sem]; first | done | fail))) ?_)
    refine ToO_nil ?_
    refine RS_first [8] (by kernel_rfl) ⟨?_, trivial⟩
    have l11 : (P0 ++ tnB R k b).length = m := by rw [List.length_append, l10]; omega
    simp -implicitDefEqProofs (disch := omega) only [go_sem]
    refine RCall_newS (fun w1 hs => pages_open (P0 ++ tnB R k b) (by omega) w1) ?_
    rintro v rs (⟨h0, go, gob, spo, ngo, rfl, rfl⟩ | ⟨h0, _⟩) hsz
    rotate_left
    · rw [hon _ l10] at h0; exact absurd rfl h0
    rw [hon _ l10, l11]
    simp -implicitDefEqProofs (disch := omega) only [go_sem]
    refine RS_det (L := [9, 10, 11, 12, 13]) (by kernel_rfl) ?_
    repeat (first | refine ToO_step (fun Q hq => by (simp -implicitDefEqProofs (disch := omega) only [go_sem]; exact hq)) ?_ | refine ToO_guard (by (simp -implicitDefEqProofs only [go_sem]; first | done | fail)) (fun Q hq => by (simp -implicitDefEqProofs (disch := omega) only [go_sem]; exact hq)) ?_ | refine ToO_skip (.inl (by (simp -implicitDefEqProofs only [go_sem]; first | done | fail))) ?_ | refine ToO_skip (.inr (by (simp -implicitDefEqProofs only [go_sem]; first | done | fail))) ?_)
    refine ToO_nil ?_
    obtain ⟨kq, hkq⟩ : ∃ kq, kq = k / 256 := ⟨_, rfl⟩
    have hkquo : (k : Int).tdiv 256 = (kq : Int) := by rw [Int.tdiv_eq_ediv_of_nonneg (by omega), hkq]; rfl
    have hkqn : kq < n := by omega
    simp -implicitDefEqProofs (disch := omega) only [go_sem, decide_true, Option.isNone_some]
    refine RLoop_from (fun f h => ∃ (j : Nat), 1 ≤ j ∧ j ≤ n + 1 ∧ f 7 = .pointer (some ⟨gf, 0, none⟩) ∧ f 8 = .int .i64 (n : Int) ∧ f 13 = .int .i64 (k : Int) ∧ f 14 = .pointer (some ⟨go, 0, none⟩) ∧ f 16 = .int .i64 (j : Int) ∧
      h = [.cells gob 5 ((P0 ++ tnB R k b).map byte ++ spo).toArray, .cells go 62 #[.slice (some ⟨gob, 0, none⟩) m (m + spo.length), str [], .int .i64 ((j - 1 : Nat) : Int)],
        .cells gb 5 ((P0 ++ R).map byte ++ sp).toArray, .cells gf 62 #[.slice (some ⟨gb, 0, none⟩) m (m + sp.length), str [], .int .i64 ((j - 1 : Nat) : Int)], .anchor w []]) (fun f _ => (n + 1 - ival (f 16)).toNat) ?_ ?_
    · exact fun w1 hs => ⟨_, hs, 1, by omega, by omega, by (first | (simp -implicitDefEqProofs (disch := omega) only [go_sem, e0, e1, e2, e7, e8, e9]; done) | (simp -implicitDefEqProofs (disch := omega) only [go_sem, e0, e1, e2, e7, e8, e9]; rfl)), by (first | (simp -implicitDefEqProofs (disch := omega) only [go_sem, e0, e1, e2, e7, e8, e9]; done) | (simp -implicitDefEqProofs (disch := omega) only [go_sem, e0, e1, e2, e7, e8, e9]; rfl)), by (first | (simp -implicitDefEqProofs (disch := omega) only [go_sem, e0, e1, e2, e7, e8, e9]; done) | (simp -implicitDefEqProofs (disch := omega) only [go_sem, e0, e1, e2, e7, e8, e9]; rfl)), by (first | (simp -implicitDefEqProofs (disch := omega) only [go_sem]; done) | (simp -implicitDefEqProofs (disch := omega) only [go_sem]; rfl)), by (first | (simp -implicitDefEqProofs (disch := omega) only [go_sem]; done) | (simp -implicitDefEqProofs (disch := omega) only [go_sem]; rfl)), rfl⟩
    rintro f h ⟨j, hj1, hjn, e7, e8, e13, e14, e16, rfl⟩ Q2 hQ2
    by_cases hjle : j ≤ n
    rotate_left
    · have k6 : decide ((j : Int) ≤ (n : Int)) = false := decide_eq_false (by omega)
      simp -implicitDefEqProofs (disch := omega) only [go_sem, e7, e8, e13, e14, e16, k6]
      refine RCall_eq pages_known ?_
      simp -implicitDefEqProofs (disch := omega) only [go_sem]
      exact hQ _ _ fun w' hs => ⟨rfl, hs.anchor (by simp)⟩
    have k6 : decide ((j : Int) ≤ (n : Int)) = true := decide_eq_true (by omega)
    obtain ⟨jj, rfl⟩ : ∃ jj, j = jj + 1 := ⟨j - 1, by omega⟩
    obtain ⟨p, hp, hpj⟩ := hG.2 jj (by omega)
    have hj9 : (1 : Int) ≤ ((jj + 1 : Nat) : Int) ∧ ((jj + 1 : Nat) : Int) < ((n + 1 : Nat) : Int) := ⟨by omega, by omega⟩
    have hrd1 : Pg.rd (Pg.page (P0 ++ R) (jj + 1)) = (Pg.pad p, 0) := by rw [hpage, hpj, Pg.rd_pg hp]
    have hrd2 : Pg.rd (Pg.page (P0 ++ tnB R k b) (jj + 1)) = if kq = jj then ([], 5) else (Pg.pad p, 0) := by
      rw [hpage', Pg.pageR_turn hR1 (by omega) b, hpj, ← hkq]
      split
      · rw [Pg.rd_turn hp (Nat.mod_lt _ (by decide))]
      · rw [Pg.rd_pg hp]
    simp -implicitDefEqProofs (disch := omega) only [go_sem, e7, e8, e13, e14, e16, k6]
    refine RCall_frame [.cells gb 5 ((P0 ++ R).map byte ++ sp).toArray, .cells gf 62 #[.slice (some ⟨gb, 0, none⟩) m (m + sp.length), str [], .int .i64 ((jj + 1 - 1 : Nat) : Int)]] [.cells gob 5 ((P0 ++ tnB R k b).map byte ++ spo).toArray, .cells go 62 #[.slice (some ⟨gob, 0, none⟩) m (m + spo.length), str [], .int .i64 ((jj + 1 - 1 : Nat) : Int)], .anchor w []] [gb, gf]
      (fun _ h => h.perm (by refine (List.Perm.trans (List.perm_append_comm (l₁ := [_, _]) (l₂ := [_, _, _])) ?_); exact List.Perm.cons _ (List.Perm.cons _ ((List.perm_append_comm (l₁ := [_]) (l₂ := [_, _]))))) ) (by simp [Res.fp]) (fun w1 hs => call_read ((jj + 1 : Nat) : Int) n (P0 ++ R) [] (by omega) (by omega) gf gb ng m hm sp ((jj + 1 - 1 : Nat) : Int) (by omega) _ w1 hs) ?_
    rintro _ _ ⟨rfl, rfl⟩
    rw [if_pos hj9, if_pos hj9, Int.toNat_natCast, hrd1]
    simp -implicitDefEqProofs (disch := omega) only [go_sem, e7, e8, e13, e14, e16]
    refine RCall_frame [.cells gob 5 ((P0 ++ tnB R k b).map byte ++ spo).toArray, .cells go 62 #[.slice (some ⟨gob, 0, none⟩) m (m + spo.length), str [], .int .i64 ((jj + 1 - 1 : Nat) : Int)]] [.cells gb 5 ((P0 ++ R).map byte ++ sp).toArray, .cells gf 62 #[.slice (some ⟨gb, 0, none⟩) m (m + sp.length), str [], .int .i64 (((jj + 1 - 1 : Nat) : Int) + 1)], .anchor w []] [gob, go]
      (fun _ h => h.perm (by refine (List.Perm.trans (List.perm_append_comm (l₁ := [_, _]) (l₂ := [_, _, _])) ?_); exact List.Perm.cons _ (List.Perm.cons _ ((List.perm_append_comm (l₁ := [_]) (l₂ := [_, _]))))) ) (by simp [Res.fp]) (fun w1 hs => call_read ((jj + 1 : Nat) : Int) n (P0 ++ tnB R k b) [] (by omega) (by omega) go gob ngo m hm spo ((jj + 1 - 1 : Nat) : Int) (by omega) _ w1 hs) ?_
    rintro _ _ ⟨rfl, rfl⟩
    rw [if_pos hj9, if_pos hj9, Int.toNat_natCast, hrd2]
    have hjj : ((jj + 1 - 1 : Nat) : Int) + 1 = ((jj + 1 + 1 - 1 : Nat) : Int) := by omega
    by_cases hkj : kq = jj
    · rw [if_pos hkj]
      have k7 : decide (((jj + 1 : Nat) : Int) = 1 + (kq : Int)) = true := decide_eq_true (by omega)
      simp -implicitDefEqProofs (disch := omega) only [go_sem, e7, e8, e13, e14, e16, hkquo, k7, decide_true]
      refine hQ2 _ _ fun w1 hs => ⟨_, hs, ⟨jj + 2, by omega, by omega, by (first | (simp -implicitDefEqProofs (disch := omega) only [go_sem, e7, e8, e13, e14, e16]; done) | (simp -implicitDefEqProofs (disch := omega) only [go_sem, e7, e8, e13, e14, e16]; rfl)), by (first | (simp -implicitDefEqProofs (disch := omega) only [go_sem, e7, e8, e13, e14, e16]; done) | (simp -implicitDefEqProofs (disch := omega) only [go_sem, e7, e8, e13, e14, e16]; rfl)), by (first | (simp -implicitDefEqProofs (disch := omega) only [go_sem, e7, e8, e13, e14, e16]; done) | (simp -implicitDefEqProofs (disch := omega) only [go_sem, e7, e8, e13, e14, e16]; rfl)), by (first | (simp -implicitDefEqProofs (disch := omega) only [go_sem, e7, e8, e13, e14, e16]; done) | (simp -implicitDefEqProofs (disch := omega) only [go_sem, e7, e8, e13, e14, e16]; rfl)), by (first | (simp -implicitDefEqProofs (disch := omega) only [go_sem]; done) | (simp -implicitDefEqProofs (disch := omega) only [go_sem]; rfl)), by rw [hjj]⟩, ?_⟩
      simp -implicitDefEqProofs (disch := omega) only [go_sem, e16]; omega
    · rw [if_neg hkj]
      have k7 : decide (((jj + 1 : Nat) : Int) = 1 + (kq : Int)) = false := decide_eq_false (by omega)
      simp -implicitDefEqProofs (disch := omega) only [go_sem, e7, e8, e13, e14, e16, hkquo, k7, decide_true]
      refine hQ2 _ _ fun w1 hs => ⟨_, hs, ⟨jj + 2, by omega, by omega, by (first | (simp -implicitDefEqProofs (disch := omega) only [go_sem, e7, e8, e13, e14, e16]; done) | (simp -implicitDefEqProofs (disch := omega) only [go_sem, e7, e8, e13, e14, e16]; rfl)), by (first | (simp -implicitDefEqProofs (disch := omega) only [go_sem, e7, e8, e13, e14, e16]; done) | (simp -implicitDefEqProofs (disch := omega) only [go_sem, e7, e8, e13, e14, e16]; rfl)), by (first | (simp -implicitDefEqProofs (disch := omega) only [go_sem, e7, e8, e13, e14, e16]; done) | (simp -implicitDefEqProofs (disch := omega) only [go_sem, e7, e8, e13, e14, e16]; rfl)), by (first | (simp -implicitDefEqProofs (disch := omega) only [go_sem, e7, e8, e13, e14, e16]; done) | (simp -implicitDefEqProofs (disch := omega) only [go_sem, e7, e8, e13, e14, e16]; rfl)), by (first | (simp -implicitDefEqProofs (disch := omega) only [go_sem]; done) | (simp -implicitDefEqProofs (disch := omega) only [go_sem]; rfl)), by rw [hjj]⟩, ?_⟩
      simp -implicitDefEqProofs (disch := omega) only [go_sem, e16]; omega
end Go.Proofs.Ytldidoaagijnhaa
