/- pages: the walks: files made, added to, and read. -/
import Derived.Test.YtldidoaagijnhaaPgA
namespace Go.Proofs.Ytldidoaagijnhaa
set_option linter.unusedSimpArgs false
set_option linter.unusedVariables false
open H
/-- A file's rows. -/
def Pg.File (gf gb : Nat) (L : List UInt8) (sp : List Value) (hd : List UInt8) (r : Int) : List Res :=
  [.cells gb 5 (L.map byte ++ sp).toArray, .cells gf 62 #[.slice (some ⟨gb, 0, none⟩) L.length (L.length + sp.length), str hd, .int .i64 r]]
theorem putAt0 (L s : List UInt8) : putAt L 0 s = s ++ L.drop s.length := by unfold putAt; simp
set_option maxRecDepth 20000 in
set_option maxHeartbeats 4000000 in
theorem pages_settle (m : Nat) (hm : 1 ≤ m ∧ m < 4294967296) (gf gb : Nat) (ng : gf ≠ gb) (L : List UInt8) (sp : List Value) (n c : Nat) (hn : n = L.length) (hc : c = L.length + sp.length) (hL : L.length = 256 * m) (hsm : L.length ≤ 1000000000) (hd : List UInt8) (hh : hd.length ≤ 200) (r : Int) (w : World)
    (hs0 : Sat w [.cells gb 5 (L.map byte ++ sp).toArray, .cells gf 62 #[.slice (some ⟨gb, 0, none⟩) n c, str hd, .int .i64 r], .anchor w [gb, gf]]) :
    Does Try.prog 38 #[.pointer (some ⟨gf, 0, none⟩)] w fun v w' => ∃ rs, Sat w' (rs ++ [.anchor w [gb, gf]]) ∧ (v = .tuple #[] ∧ rs = [.cells gb 5 ((putAt L 0 (Pg.pg (Pg.first m hd))).map byte ++ sp).toArray, .cells gf 62 #[.slice (some ⟨gb, 0, none⟩) n c, str hd, .int .i64 r]]) := by
  refine does (args := [.pointer (some ⟨gf, 0, none⟩)]) Try.func38 rfl (by kernel_rfl) (by kernel_rfl) rfl ent_38 (hs0) ?_; intro QV hQ
  have hnm : n / 256 = m := by omega
  have hfl := Pg.first_len (n := m) hh
  simp -implicitDefEqProofs (disch := omega) only [go_sem]
  refine RDraw_seg (by kernel_rfl) (by kernel_rfl) 9 rfl ?_
  refine RS_cutR [0, 1, 2, 3, 4, 5, 6, 7] [8] (by decide +kernel) ?_
  refine RS_det (by kernel_rfl) ?_
  repeat (first | refine ToO_step (fun Q hq => by (simp -implicitDefEqProofs (disch := omega) only [go_sem]; exact hq)) ?_ | refine ToO_guard (by (simp -implicitDefEqProofs only [go_sem]; first | done | fail)) (fun Q hq => by (simp -implicitDefEqProofs (disch := omega) only [go_sem]; exact hq)) ?_ | refine ToO_skip (.inl (by (simp -implicitDefEqProofs only [go_sem]; first | done | fail))) ?_ | refine ToO_skip (.inr (by (simp -implicitDefEqProofs only [go_sem]; first | done | fail))) ?_)
  first | refine ToO_step (fun Q hq => by (simp -implicitDefEqProofs (disch := omega) only [go_sem]; refine RCall_eqS (fun w1 hs => by have := pages_pages gf (some ⟨gb, 0, none⟩) n c (by omega) hd r w1 (Pg.at_of hs (by simp)); rw [hnm] at this; exact this) ?_; simp -implicitDefEqProofs (disch := omega) only [go_sem]; exact hq)) ?_ | refine ToO_guard (by (simp -implicitDefEqProofs only [go_sem]; first | done | fail)) (fun Q hq => by (simp -implicitDefEqProofs (disch := omega) only [go_sem]; refine RCall_eqS (fun w1 hs => by have := pages_pages gf (some ⟨gb, 0, none⟩) n c (by omega) hd r w1 (Pg.at_of hs (by simp)); rw [hnm] at this; exact this) ?_; simp -implicitDefEqProofs (disch := omega) only [go_sem]; exact hq)) ?_
  repeat (first | refine ToO_step (fun Q hq => by (simp -implicitDefEqProofs (disch := omega) only [go_sem]; exact hq)) ?_ | refine ToO_guard (by (simp -implicitDefEqProofs only [go_sem]; first | done | fail)) (fun Q hq => by (simp -implicitDefEqProofs (disch := omega) only [go_sem]; exact hq)) ?_ | refine ToO_skip (.inl (by (simp -implicitDefEqProofs only [go_sem]; first | done | fail))) ?_ | refine ToO_skip (.inr (by (simp -implicitDefEqProofs only [go_sem]; first | done | fail))) ?_)
  first | refine ToO_step (fun Q hq => by (simp -implicitDefEqProofs (disch := omega) only [go_sem]; refine RCall_eq (pages_first m (by omega) hd (by omega)) ?_; simp -implicitDefEqProofs (disch := omega) only [go_sem]; exact hq)) ?_ | refine ToO_guard (by (simp -implicitDefEqProofs only [go_sem]; first | done | fail)) (fun Q hq => by (simp -implicitDefEqProofs (disch := omega) only [go_sem]; refine RCall_eq (pages_first m (by omega) hd (by omega)) ?_; simp -implicitDefEqProofs (disch := omega) only [go_sem]; exact hq)) ?_
  repeat (first | refine ToO_step (fun Q hq => by (simp -implicitDefEqProofs (disch := omega) only [go_sem]; exact hq)) ?_ | refine ToO_guard (by (simp -implicitDefEqProofs only [go_sem]; first | done | fail)) (fun Q hq => by (simp -implicitDefEqProofs (disch := omega) only [go_sem]; exact hq)) ?_ | refine ToO_skip (.inl (by (simp -implicitDefEqProofs only [go_sem]; first | done | fail))) ?_ | refine ToO_skip (.inr (by (simp -implicitDefEqProofs only [go_sem]; first | done | fail))) ?_)
  refine ToO_nil ?_
  refine RS_text (by kernel_rfl) ?_
  simp -implicitDefEqProofs (disch := omega) only [go_sem]
  refine RCall_frame [.cells gb 5 (L.map byte ++ sp).toArray, .cells gf 62 #[.slice (some ⟨gb, 0, none⟩) n c, str hd, .int .i64 r]] [.anchor w [gb, gf]] [gb, gf] (fun _ h => h) (by simp [Res.fp])
    (fun w1 hs => pages_put 0 (Pg.first m hd) (by omega) gf gb ng L sp n c hn hc (by omega) (by omega) hd r w1 (hs.reanchors (by simp [Res.fp]))) ?_
  rintro _ _ ⟨rfl, rfl⟩
  simp -implicitDefEqProofs (disch := omega) only [go_sem]
  exact hQ _ _ fun w' hs => ⟨[_, _], hs, rfl, rfl⟩
/-- What New hands back. -/
def Pg.New (v : Value) (rs : List Res) : Prop := ∃ gf gb, gf ≠ gb ∧ v = .pointer (some ⟨gf, 0, none⟩) ∧ rs = [.cells gb 5 ((Pg.pg (Pg.first 1 [])).map byte ++ []).toArray, .cells gf 62 #[.slice (some ⟨gb, 0, none⟩) 256 256, str [], .int .i64 0]]
set_option maxRecDepth 20000 in
set_option maxHeartbeats 4000000 in
theorem pages_new (w : World) : Does Try.prog 10 #[] w fun v w' => ∃ rs, Sat w' (rs ++ [.anchor w []]) ∧ Pg.New v rs := by
  refine does (args := []) Try.func10 rfl (by kernel_rfl) (by kernel_rfl) rfl ent_10 (Sat.start w []) ?_; intro QV hQ
  simp -implicitDefEqProofs (disch := omega) only [go_sem]
  refine RRun_make (n := 256) (zv := byte 0) bytes_sl (by rw [zero_5]; rfl) (by omega) (by omega) fun gb hgb => ?_
  rw [Nat.mul_one, made_bytes]
  simp only [below_cons, below_nil, under_anchor, and_true] at hgb
  simp -implicitDefEqProofs (disch := omega) only [go_sem]
  refine RNew_intro fun gf hgf => ?_
  simp only [below_cons, below_nil, under_anchor, under_cells, and_true] at hgf
  have ng : gf ≠ gb := by omega
  have hz : List.replicate 256 (0 : UInt8) = Pg.zs 256 := rfl
  rw [hz]
  obtain ⟨sp0, hsp⟩ : ∃ sp0 : List Value, sp0 = [] := ⟨_, rfl⟩
  simp -implicitDefEqProofs (disch := omega) only [go_sem]
  refine RCall_frame [.cells gb 5 ((Pg.zs 256).map byte ++ sp0).toArray, .cells gf 62 #[.slice (some ⟨gb, 0, none⟩) 256 256, str [], .int .i64 0]] [.anchor w []] [gb, gf] (fun _ h => by rw [hsp, List.append_nil]; exact h.swap2) (by simp [Res.fp])
    (fun w1 hs => pages_settle 1 (by omega) gf gb ng (Pg.zs 256) sp0 256 256 (by rw [Pg.zs_len]) (by rw [Pg.zs_len, hsp]; rfl) (by rw [Pg.zs_len]) (by rw [Pg.zs_len]; omega) [] (by simp) 0 w1 (hs.reanchors (by simp [Res.fp]))) ?_
  rintro _ _ ⟨rfl, rfl⟩
  have hfl := Pg.first_len (n := 1) (hd := []) (by simp)
  have hp : putAt (Pg.zs 256) 0 (Pg.pg (Pg.first 1 [])) = Pg.pg (Pg.first 1 []) := by
    rw [putAt0, List.drop_eq_nil_of_le (by rw [Pg.zs_len, Pg.pg_len (by omega)]; exact Nat.le_refl _), List.append_nil]
  rw [hp, hsp]
  simp -implicitDefEqProofs (disch := omega) only [go_sem]
  exact hQ _ _ fun w' hs => ⟨[_, _], hs, gf, gb, ng, rfl, by rw [List.append_nil]⟩
/-- What Add hands back, and leaves. -/
def Pg.Added (w0 : World) (gf gb : Nat) (L : List UInt8) (m : Nat) (s hd : List UInt8) (r : Int) (v : Value) (rs : List Res) : Prop := ∃ gb' sp', gf ≠ gb' ∧ (gb' = gb ∨ w0.heap.size ≤ gb') ∧ v = .tuple #[.int .i64 (m : Int), .int .i64 0] ∧
  rs = [.cells gb' 5 ((putAt (L ++ Pg.pg s) 0 (Pg.pg (Pg.first (m + 1) hd))).map byte ++ sp').toArray, .cells gf 62 #[.slice (some ⟨gb', 0, none⟩) (256 * (m + 1)) (256 * (m + 1) + sp'.length), str hd, .int .i64 r]]
set_option maxRecDepth 20000 in
set_option maxHeartbeats 4000000 in
theorem pages_add (m : Nat) (hm : 1 ≤ m ∧ m < 65536) (s : List UInt8) (hsl : s.length ≤ 252) (gf gb : Nat) (ng : gf ≠ gb) (L : List UInt8) (sp : List Value) (n c : Nat) (hn : n = L.length) (hc : c = L.length + sp.length) (hL : L.length = 256 * m) (hd : List UInt8) (hh : hd.length ≤ 200) (r : Int) (w : World)
    (hs0 : Sat w [.cells gb 5 (L.map byte ++ sp).toArray, .cells gf 62 #[.slice (some ⟨gb, 0, none⟩) n c, str hd, .int .i64 r], .anchor w [gb, gf]]) :
    Does Try.prog 11 #[.pointer (some ⟨gf, 0, none⟩), str s] w fun v w' => ∃ rs, Sat w' (rs ++ [.anchor w [gb, gf]]) ∧ Pg.Added w gf gb L m s hd r v rs := by
  have hgl : gb < w.heap.size := hs0.2.1 gb rfl
  have hgl2 : gf < w.heap.size := hs0.2.2.2.2.1 gf rfl
  refine does (args := [.pointer (some ⟨gf, 0, none⟩), str s]) Try.func11 rfl (by kernel_rfl) (by kernel_rfl) rfl ent_11 (hs0) ?_; intro QV hQ
  have hnm : n / 256 = m := by omega
  have k1 : decide (256 ≤ n) = true := decide_eq_true (by omega)
  have k2 : decide ((252 : Int) < (s.length : Int)) = false := decide_eq_false (by omega)
  have k3 : decide ((65536 : Int) ≤ (m : Int)) = false := decide_eq_false (by omega)
  simp -implicitDefEqProofs (disch := omega) only [go_sem]
  refine RCall_eqS (fun w1 hs => pages_there gf (some ⟨gb, 0, none⟩) n c hd r w1 (Pg.at_of hs (by simp))) ?_
  rw [k1]
  simp -implicitDefEqProofs (disch := omega) only [go_sem, k2]
  refine RCall_eqS (fun w1 hs => pages_pages gf (some ⟨gb, 0, none⟩) n c (by omega) hd r w1 (Pg.at_of hs (by simp))) ?_
  rw [hnm]
  simp -implicitDefEqProofs (disch := omega) only [go_sem, k3]
  refine RCall_eqS (fun w1 hs => pages_pages gf (some ⟨gb, 0, none⟩) n c (by omega) hd r w1 (Pg.at_of hs (by simp))) ?_
  rw [hnm]
  simp -implicitDefEqProofs (disch := omega) only [go_sem]
  refine RRun_append_zeros (k := 256) bytes_sl Try.underlying3 (by rw [zero_5]; rfl) hn hc (by omega) rfl (by omega) fun gb' sp' hgb' => ?_
  have ng' : gf ≠ gb' := by
    rcases hgb' with rfl | hb
    · exact ng
    · simp only [below_cons, below_nil, under_anchor, under_cells, and_true] at hb; omega
  have hge : gb' = gb ∨ w.heap.size ≤ gb' := by
    rcases hgb' with rfl | hb
    · exact .inl rfl
    · simp only [below_cons, below_nil, under_anchor, under_cells, and_true] at hb; exact .inr hb.2.2
  have ng2 : gb' ≠ gf := Ne.symm ng'
  have hz : List.replicate 256 (0 : UInt8) = Pg.zs 256 := rfl
  rw [hz]
  have hl1 : (L ++ Pg.zs 256).length = 256 * (m + 1) := by rw [List.length_append, Pg.zs_len]; omega
  have hn1 : n + 256 = 256 * (m + 1) := by omega
  rw [hn1]
  simp -implicitDefEqProofs (disch := omega) only [go_sem]
  refine RCall_frame [.cells gb' 5 ((L ++ Pg.zs 256).map byte ++ sp').toArray, .cells gf 62 #[.slice (some ⟨gb', 0, none⟩) (256 * (m + 1)) (256 * (m + 1) + sp'.length), str hd, .int .i64 r]] [.anchor w [gb, gf]] [gb', gf] (fun _ h => h) (by simp [Res.fp])
    (fun w1 hs => pages_put m s hsl gf gb' ng' (L ++ Pg.zs 256) sp' (256 * (m + 1)) (256 * (m + 1) + sp'.length) hl1.symm (by rw [hl1]) (by omega) (by omega) hd r w1 (hs.reanchors (by simp [Res.fp]))) ?_
  rintro _ _ ⟨rfl, rfl⟩
  have hp : putAt (L ++ Pg.zs 256) (256 * m) (Pg.pg s) = L ++ Pg.pg s := by
    have := Pg.putAt_mid L [] (Pg.pg s) (256 * m) (Pg.zs 256) hL (by rw [Pg.pg_len hsl, Pg.zs_len])
    rw [List.append_nil, List.append_nil] at this
    exact this
  rw [hp]
  have hl2 : (L ++ Pg.pg s).length = 256 * (m + 1) := by rw [List.length_append, Pg.pg_len hsl]; omega
  simp -implicitDefEqProofs (disch := omega) only [go_sem]
  refine RCall_frame [.cells gb' 5 ((L ++ Pg.pg s).map byte ++ sp').toArray, .cells gf 62 #[.slice (some ⟨gb', 0, none⟩) (256 * (m + 1)) (256 * (m + 1) + sp'.length), str hd, .int .i64 r]] [.anchor w [gb, gf]] [gb', gf] (fun _ h => h) (by simp [Res.fp])
    (fun w1 hs => pages_settle (m + 1) (by omega) gf gb' ng' (L ++ Pg.pg s) sp' (256 * (m + 1)) (256 * (m + 1) + sp'.length) hl2.symm (by rw [hl2]) (by omega) (by omega) hd hh r w1 (hs.reanchors (by simp [Res.fp]))) ?_
  rintro _ _ ⟨rfl, rfl⟩
  simp -implicitDefEqProofs (disch := omega) only [go_sem]
  exact hQ _ _ fun w' hs => ⟨[_, _], hs, gb', sp', ng', hge, rfl, rfl⟩
/-- What is read of a page. -/
def Pg.page (L : List UInt8) (i : Nat) : List UInt8 := (L.drop (256 * i)).take 256
def Pg.rd (p : List UInt8) : List UInt8 × Int := if p.drop 252 = Pg.sumB (p.take 252) then (p.take 252, 0) else ([], 5)
theorem take_all' (s : List UInt8) (n : Nat) (h : s.length ≤ n) : s.take n = s := List.take_of_length_le h
set_option maxRecDepth 20000 in
set_option maxHeartbeats 4000000 in
theorem pages_read (i : Int) (m : Nat) (gf gb : Nat) (ng : gf ≠ gb) (L : List UInt8) (sp : List Value) (n c : Nat) (hn : n = L.length) (hc : c = L.length + sp.length) (hm : 1 ≤ m) (hL : L.length = 256 * m) (hsm : L.length ≤ 1000000000) (hd : List UInt8) (r : Int) (hr : 0 ≤ r ∧ r ≤ 1000000000) (w : World)
    (hs0 : Sat w [.cells gb 5 (L.map byte ++ sp).toArray, .cells gf 62 #[.slice (some ⟨gb, 0, none⟩) n c, str hd, .int .i64 r], .anchor w [gb, gf]]) :
    Does Try.prog 17 #[.pointer (some ⟨gf, 0, none⟩), .int .i64 i] w fun v w' => ∃ rs, Sat w' (rs ++ [.anchor w [gb, gf]]) ∧ 
      (v = (if 1 ≤ i ∧ i < m then .tuple #[str (Pg.rd (Pg.page L i.toNat)).1, .int .i64 (Pg.rd (Pg.page L i.toNat)).2] else .tuple #[str [], .int .i64 1]) ∧ rs = [.cells gb 5 (L.map byte ++ sp).toArray, .cells gf 62 #[.slice (some ⟨gb, 0, none⟩) n c, str hd, .int .i64 (if 1 ≤ i ∧ i < m then r + 1 else r)]]) := by
  refine does (args := [.pointer (some ⟨gf, 0, none⟩), .int .i64 i]) Try.func17 rfl (by kernel_rfl) (by kernel_rfl) rfl ent_17 (hs0) ?_; intro QV hQ
  have hnm : n / 256 = m := by omega
  have k1 : decide (256 ≤ n) = true := decide_eq_true (by omega)
  simp -implicitDefEqProofs (disch := omega) only [go_sem]
  refine RCall_eqS (fun w1 hs => pages_there gf (some ⟨gb, 0, none⟩) n c hd r w1 (Pg.at_of hs (by simp))) ?_
  rw [k1]
  simp -implicitDefEqProofs (disch := omega) only [go_sem]
  refine RCall_eqS (fun w1 hs => pages_has gf (some ⟨gb, 0, none⟩) n c (by omega) hd r i w1 (Pg.at_of hs (by simp))) ?_
  rw [hnm]
  by_cases hi : 1 ≤ i ∧ i < (m : Int)
  rotate_left
  · simp only [if_neg hi] at hQ
    simp -implicitDefEqProofs (disch := omega) only [go_sem, decide_eq_false hi]
    exact hQ _ _ fun w' hs => ⟨[_, _], hs, rfl, rfl⟩
  simp only [if_pos hi] at hQ
  obtain ⟨j, rfl⟩ := Int.eq_ofNat_of_zero_le (show 0 ≤ i by omega)
  rw [Int.toNat_natCast] at hQ
  obtain ⟨a, ha⟩ : ∃ a, a = 256 * j := ⟨_, rfl⟩
  obtain ⟨b, hb⟩ : ∃ b, b = a + 256 := ⟨_, rfl⟩
  have e1 : (j : Int) * 256 = (a : Int) := by omega
  have e2 : ((j : Int) + 1) * 256 = (b : Int) := by omega
  have e3 : b - a = 256 := by omega
  have hpg : Pg.page L j = (L.drop a).take 256 := by unfold Pg.page; rw [ha]
  have hpl : ((L.drop a).take 256).length = 256 := by rw [List.length_take, List.length_drop]; omega
  rw [hpg] at hQ
  simp -implicitDefEqProofs (disch := omega) only [go_sem, decide_eq_true hi, e1, e2, e3]
  refine RRun_str_at bytes_t Try.underlying9 (by omega) ?_
  generalize (L.drop a).take 256 = p at *
  have l1 : (p.take 252).length = 252 := by rw [List.length_take]; omega
  have l2 := Pg.sumB_len (p.take 252)
  simp -implicitDefEqProofs (disch := omega) only [go_sem]
  refine RDraw_to 6 (by kernel_rfl) (by kernel_rfl) (by kernel_rfl) ?_
  repeat (first | refine Tr_step (fun Q hq => by (simp -implicitDefEqProofs (disch := omega) only [go_sem]; exact hq)) ?_ | refine Tr_guard (by (simp -implicitDefEqProofs only [go_sem]; first | done | fail)) (fun Q hq => by (simp -implicitDefEqProofs (disch := omega) only [go_sem]; exact hq)) ?_ | refine Tr_skip (.inl (by (simp -implicitDefEqProofs only [go_sem]; first | done | fail))) ?_ | refine Tr_skip (.inr (by (simp -implicitDefEqProofs only [go_sem]; first | done | fail))) ?_)
  first | refine Tr_step (fun Q hq => by (simp -implicitDefEqProofs (disch := omega) only [go_sem]; refine RCall_eq (pages_sum (p.take 252) (by omega)) ?_; simp -implicitDefEqProofs (disch := omega) only [go_sem]; exact hq)) ?_ | refine Tr_guard (by (simp -implicitDefEqProofs only [go_sem]; first | done | fail)) (fun Q hq => by (simp -implicitDefEqProofs (disch := omega) only [go_sem]; refine RCall_eq (pages_sum (p.take 252) (by omega)) ?_; simp -implicitDefEqProofs (disch := omega) only [go_sem]; exact hq)) ?_
  repeat (first | refine Tr_step (fun Q hq => by (simp -implicitDefEqProofs (disch := omega) only [go_sem]; exact hq)) ?_ | refine Tr_guard (by (simp -implicitDefEqProofs only [go_sem]; first | done | fail)) (fun Q hq => by (simp -implicitDefEqProofs (disch := omega) only [go_sem]; exact hq)) ?_ | refine Tr_skip (.inl (by (simp -implicitDefEqProofs only [go_sem]; first | done | fail))) ?_ | refine Tr_skip (.inr (by (simp -implicitDefEqProofs only [go_sem]; first | done | fail))) ?_)
  refine To_nil ?_
  unfold Pg.rd at hQ
  by_cases h : p.drop 252 = Pg.sumB (p.take 252)
  · rw [if_pos h] at hQ
    simp -implicitDefEqProofs (disch := omega) only [go_sem, decide_eq_true h, Int.reduceToNat]
    exact hQ _ _ fun w' hs => ⟨[_, _], hs, rfl, rfl⟩
  · rw [if_neg h] at hQ
    simp -implicitDefEqProofs (disch := omega) only [go_sem, decide_eq_false h, Int.reduceToNat]
    exact hQ _ _ fun w' hs => ⟨[_, _], hs, rfl, rfl⟩
end Go.Proofs.Ytldidoaagijnhaa
