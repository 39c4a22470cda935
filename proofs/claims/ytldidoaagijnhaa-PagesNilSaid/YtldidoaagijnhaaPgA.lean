/- pages: the walks: sums, and what is put. -/
import Derived.Test.YtldidoaagijnhaaVintTF
import Derived.Test.YtldidoaagijnhaaCrcF
import Derived.Test.YtldidoaagijnhaaPgM
import Derived.Test.YtldidoaagijnhaaAgg
import Derived.Test.YtldidoaagijnhaaJoin
import Derived.Test.YtldidoaagijnhaaSegF
namespace Go.Proofs.Ytldidoaagijnhaa
set_option linter.unusedSimpArgs false
set_option linter.unusedVariables false
open H
theorem crc_fix (s : List UInt8) : (Vint.fixed ((Crc.of s).toNat : Int) 4).1 = Pg.sumB s := by
  have h := (Crc.of s).isLt
  unfold Vint.fixed Pg.sumB
  rw [if_neg (by unfold Vint.wide; omega), if_pos]
  · rfl
  · rw [Int.toNat_natCast]
    exact Nat.div_eq_of_lt h
theorem fix4 (n : Nat) (h : n < 4294967296) : (Vint.fixed (n : Int) 4).1 = Vint.fixL 4 n := by
  unfold Vint.fixed
  rw [if_neg (by unfold Vint.wide; omega), if_pos]
  · rfl
  · rw [Int.toNat_natCast]
    exact Nat.div_eq_of_lt h
theorem pages_sum (s : List UInt8) (hl : s.length ≤ 9223372036854775807) (w : World) : Does Try.prog 42 #[str s] w fun v w' => v = str (Pg.sumB s) ∧ Ext [] w w' := by
  refine does (args := [str s]) Try.func42 rfl (by kernel_rfl) (by kernel_rfl) rfl ent_42 (Sat.start w []) ?_; intro QV hQ
  have hlt := (Crc.of s).isLt
  simp -implicitDefEqProofs (disch := omega) only [go_sem]
  refine RCall_eq (crc_of s hl) ?_
  simp -implicitDefEqProofs (disch := omega) only [go_sem]
  refine RCall_eq (vint_fixed _ 4 (by omega)) ?_
  simp -implicitDefEqProofs (disch := omega) only [go_sem]
  exact hQ _ _ fun w' hs => ⟨by rw [crc_fix], hs.anchor (by simp)⟩
theorem pages_first (n : Nat) (hn : n < 4294967296) (hd : List UInt8) (hh : hd.length ≤ 1000000) (w : World) : Does Try.prog 60 #[.int .i64 (n : Int), str hd] w fun v w' => v = str (Pg.first n hd) ∧ Ext [] w w' := by
  refine does (args := [.int .i64 (n : Int), str hd]) Try.func60 rfl (by kernel_rfl) (by kernel_rfl) rfl ent_60 (Sat.start w []) ?_; intro QV hQ
  simp -implicitDefEqProofs (disch := omega) only [go_sem]
  refine RCall_eq (vint_fixed (n : Int) 4 (by omega)) ?_
  rw [fix4 n hn]
  have l1 : (Vint.fixL 4 n).length = 4 := Vint.fixL_len _ _
  have l2 : (80 :: 71 :: 70 :: 76 :: Vint.fixL 4 n).length = 8 := by simp only [List.length_cons, l1]
  have l3 : (Vint.text hd).length ≤ 1000010 := by
    unfold Vint.text
    have := Vint.putL_len9 hd.length (by omega)
    rw [List.length_append]; omega
  have b0 : strV .add ⟨#[80, 71, 70, 76]⟩ ⟨(Vint.fixL 4 n).toArray⟩ = some (str ([80, 71, 70, 76] ++ Vint.fixL 4 n)) := strV_add [80, 71, 70, 76] _ (by simp only [List.length_cons, List.length_nil]; omega)
  simp -implicitDefEqProofs (disch := omega) only [go_sem, b0]
  refine RCall_eq (vint_text hd (by omega)) ?_
  simp -implicitDefEqProofs (disch := omega) only [go_sem]
  exact hQ _ _ fun w' hs => ⟨rfl, hs.anchor (by simp)⟩
/-- What a file's struct holds. -/
structure Pg.At (w : World) (gf : Nat) (v : Value) (hd : List UInt8) (r : Int) : Prop where
  lt : gf < w.heap.size
  b : w.cell? ⟨gf, 0, none⟩ = some v
  h : w.cell? ⟨gf, 1, none⟩ = some (str hd)
  r : w.cell? ⟨gf, 2, none⟩ = some (.int .i64 r)
theorem Pg.at_of {w : World} {h : List Res} {gf : Nat} {v : Value} {hd : List UInt8} {r : Int} (hs : Sat w h) (hm : Res.cells gf 62 #[v, str hd, .int .i64 r] ∈ h) : Pg.At w gf v hd r := by
  obtain ⟨hr, hl⟩ := hs.row hm
  refine ⟨hl, ?_, ?_, ?_⟩ <;> (rw [cell_cells hr rfl, if_pos rfl]; rfl)
theorem Pg.At.keep {w w' : World} {gf : Nat} {v : Value} {hd : List UInt8} {r : Int} (h : Pg.At w gf v hd r) (hx : Ext [] w w') : Pg.At w' gf v hd r := by
  have hb : w'.heap[gf]? = w.heap[gf]? := hx.block gf h.lt (by simp)
  exact ⟨Nat.lt_of_lt_of_le h.lt hx.size, by rw [← h.b]; exact cell_of_block hb, by rw [← h.h]; exact cell_of_block hb, by rw [← h.r]; exact cell_of_block hb⟩
theorem pages_there (gf : Nat) (a : Option Addr) (n c : Nat) (hd : List UInt8) (r : Int) (w : World) (ha : Pg.At w gf (.slice a n c) hd r) : Does Try.prog 39 #[.pointer (some ⟨gf, 0, none⟩)] w fun v w' => v = .bool (decide (256 ≤ n)) ∧ Ext [] w w' := by
  refine does (args := [.pointer (some ⟨gf, 0, none⟩)]) Try.func39 rfl (by kernel_rfl) (by kernel_rfl) rfl ent_39 (Sat.start w []) ?_; intro QV hQ
  have hlt := ha.lt
  have hb := ha.b
  simp -implicitDefEqProofs (disch := omega) only [go_sem, hb, Option.isNone_some]
  exact hQ _ _ fun w' hs => ⟨by congr 1; rw [decide_eq_decide]; omega, hs.anchor (by simp)⟩
theorem pages_there_nil (w : World) : Does Try.prog 39 #[.pointer none] w fun v w' => v = .bool false ∧ Ext [] w w' := by
  refine does (args := [.pointer none]) Try.func39 rfl (by kernel_rfl) (by kernel_rfl) rfl ent_39 (Sat.start w []) ?_; intro QV hQ
  simp -implicitDefEqProofs (disch := omega) only [go_sem, Option.isNone_none]
  exact hQ _ _ fun w' hs => ⟨rfl, hs.anchor (by simp)⟩
theorem pages_pages (gf : Nat) (a : Option Addr) (n c : Nat) (hn : n ≤ 9223372036854775807) (hd : List UInt8) (r : Int) (w : World) (ha : Pg.At w gf (.slice a n c) hd r) : Does Try.prog 40 #[.pointer (some ⟨gf, 0, none⟩)] w fun v w' => v = .int .i64 ((n / 256 : Nat) : Int) ∧ Ext [] w w' := by
  refine does (args := [.pointer (some ⟨gf, 0, none⟩)]) Try.func40 rfl (by kernel_rfl) (by kernel_rfl) rfl ent_40 (Sat.start w []) ?_; intro QV hQ
  have hlt := ha.lt
  have hb := ha.b
  obtain ⟨q, hq⟩ : ∃ q, q = n / 256 := ⟨_, rfl⟩
  have hquo : (n : Int).tdiv 256 = (q : Int) := by rw [Int.tdiv_eq_ediv_of_nonneg (by omega), hq]; rfl
  simp -implicitDefEqProofs (disch := omega) only [go_sem, hb, hquo]
  exact hQ _ _ fun w' hs => ⟨by rw [hq], hs.anchor (by simp)⟩
theorem pages_has (gf : Nat) (a : Option Addr) (n c : Nat) (hn : n ≤ 9223372036854775807) (hd : List UInt8) (r : Int) (i : Int) (w : World) (ha : Pg.At w gf (.slice a n c) hd r) : Does Try.prog 45 #[.pointer (some ⟨gf, 0, none⟩), .int .i64 i] w fun v w' => v = .bool (decide (1 ≤ i ∧ i < ((n / 256 : Nat) : Int))) ∧ Ext [] w w' := by
  refine does (args := [.pointer (some ⟨gf, 0, none⟩), .int .i64 i]) Try.func45 rfl (by kernel_rfl) (by kernel_rfl) rfl ent_45 (Sat.start w []) ?_; intro QV hQ
  by_cases h1 : 1 ≤ i
  · simp -implicitDefEqProofs (disch := omega) only [go_sem, decide_eq_true h1]
    refine RCall_eqS (fun w1 hs => pages_pages gf a n c hn hd r w1 (ha.keep (hs.mem (.anchor w []) (by simp)))) ?_
    simp -implicitDefEqProofs (disch := omega) only [go_sem]
    exact hQ _ _ fun w' hs => ⟨by congr 1; rw [decide_eq_decide]; exact ⟨fun h => ⟨h1, h⟩, fun h => h.2⟩, hs.anchor (by simp)⟩
  · simp -implicitDefEqProofs (disch := omega) only [go_sem, decide_eq_false h1]
    exact hQ _ _ fun w' hs => ⟨by rw [decide_eq_false (fun h => h1 h.1)], hs.anchor (by simp)⟩
set_option maxRecDepth 20000 in
set_option maxHeartbeats 4000000 in
theorem pages_put (i : Nat) (s : List UInt8) (hs : s.length ≤ 252) (gf gb : Nat) (ng : gf ≠ gb) (L : List UInt8) (sp : List Value) (n c : Nat) (hn : n = L.length) (hc : c = L.length + sp.length) (hi : 256 * (i + 1) ≤ L.length) (hL : L.length ≤ 1000000000) (hd : List UInt8) (r : Int) (w : World)
    (hs0 : Sat w [.cells gb 5 (L.map byte ++ sp).toArray, .cells gf 62 #[.slice (some ⟨gb, 0, none⟩) n c, str hd, .int .i64 r], .anchor w [gb, gf]]) :
    Does Try.prog 41 #[.pointer (some ⟨gf, 0, none⟩), .int .i64 (i : Int), str s] w fun v w' => ∃ rs, Sat w' (rs ++ [.anchor w [gb, gf]]) ∧ (v = .tuple #[] ∧ rs = [.cells gb 5 ((putAt L (256 * i) (Pg.pg s)).map byte ++ sp).toArray, .cells gf 62 #[.slice (some ⟨gb, 0, none⟩) n c, str hd, .int .i64 r]]) := by
  refine does (args := [.pointer (some ⟨gf, 0, none⟩), .int .i64 (i : Int), str s]) Try.func41 rfl (by kernel_rfl) (by kernel_rfl) rfl ent_41 (hs0) ?_; intro QV hQ
  obtain ⟨a, ha⟩ : ∃ a, a = 256 * i := ⟨_, rfl⟩
  obtain ⟨b, hb⟩ : ∃ b, b = a + 256 := ⟨_, rfl⟩
  have e1 : (i : Int) * 256 = (a : Int) := by omega
  have e2 : ((i : Int) + 1) * 256 = (b : Int) := by omega
  have e3 : b - a = 256 := by omega
  obtain ⟨h1, h2⟩ := Pg.put3 L a s hs (by omega)
  have hz256 : List.replicate 256 (0 : UInt8) = Pg.zs 256 := rfl
  have l1 : (putAt L a (Pg.zs 256)).length = L.length := putAt_len (by rw [Pg.zs_len]; omega)
  have l2 : (putAt (putAt L a (Pg.zs 256)) a s).length = L.length := by rw [putAt_len (by omega), l1]
  have l3 := Pg.pad_len hs
  have l4 := Pg.sumB_len (Pg.pad s)
  simp -implicitDefEqProofs (disch := omega) only [go_sem, e1, e2, e3]
  refine RRun_clear Try.underlying59 (by rw [zero_5]; rfl) (by omega) (by omega) ?_
  rw [hz256]
  simp -implicitDefEqProofs (disch := omega) only [go_sem]
  refine RRun_copy_str s bytes_sl (by omega) (by omega) ?_
  simp -implicitDefEqProofs (disch := omega) only [go_sem]
  refine RDraw_seg (by kernel_rfl) (by kernel_rfl) 7 rfl ?_
  refine RS_cutR [0, 1, 2, 3] [4, 5, 6] (by decide +kernel) ?_
  refine RS_det (by kernel_rfl) ?_
  repeat (first | refine ToO_step (fun Q hq => by (simp -implicitDefEqProofs (disch := omega) only [go_sem]; exact hq)) ?_ | refine ToO_guard (by (simp -implicitDefEqProofs only [go_sem]; first | done | fail)) (fun Q hq => by (simp -implicitDefEqProofs (disch := omega) only [go_sem]; exact hq)) ?_ | refine ToO_skip (.inl (by (simp -implicitDefEqProofs only [go_sem]; first | done | fail))) ?_ | refine ToO_skip (.inr (by (simp -implicitDefEqProofs only [go_sem]; first | done | fail))) ?_)
  refine ToO_nil ?_
  refine RS_text (by kernel_rfl) ?_
  simp -implicitDefEqProofs (disch := omega) only [go_sem]
  refine RRun_str_at bytes_t Try.underlying9 (by omega) ?_
  rw [h1]
  simp -implicitDefEqProofs (disch := omega) only [go_sem]
  refine RCall_eq (pages_sum (Pg.pad s) (by omega)) ?_
  simp -implicitDefEqProofs (disch := omega) only [go_sem]
  refine RRun_copy_str (Pg.sumB (Pg.pad s)) bytes_sl (by omega) (by omega) ?_
  rw [h2]
  simp -implicitDefEqProofs (disch := omega) only [go_sem]
  subst ha
  exact hQ _ _ fun w' hs => ⟨[_, _], hs, rfl, rfl⟩
end Go.Proofs.Ytldidoaagijnhaa
