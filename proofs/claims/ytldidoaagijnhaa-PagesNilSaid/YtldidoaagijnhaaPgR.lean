/- pages' reference: the walks. -/
import Derived.Test.YtldidoaagijnhaaPgC
namespace Go.Proofs.Ytldidoaagijnhaa
set_option linter.unusedSimpArgs false
set_option linter.unusedVariables false
open H
theorem pages_rsum (s : List UInt8) (hl : s.length ≤ 9223372036854775806) (w : World) : Does Try.prog 47 #[str s] w fun v w' => v = str (Pg.sumB s) ∧ Ext [] w w' := by
  refine does (args := [str s]) Try.func47 rfl (by kernel_rfl) (by kernel_rfl) rfl ent_47 (Sat.start w []) ?_; intro QV hQ
  have hlt := (Crc.of s).isLt
  simp -implicitDefEqProofs (disch := omega) only [go_sem]
  refine RCall_eq (ref_of s hl) ?_
  simp -implicitDefEqProofs (disch := omega) only [go_sem]
  refine RCall_eq (ref_fixed _ 4 (by omega)) ?_
  simp -implicitDefEqProofs (disch := omega) only [go_sem]
  exact hQ _ _ fun w' hs => ⟨by rw [crc_fix], hs.anchor (by simp)⟩
theorem pages_zeros (n : Nat) (hn : n ≤ 1000000) (w : World) : Does Try.prog 65 #[.int .i64 (n : Int)] w fun v w' => v = str (Pg.zs n) ∧ Ext [] w w' := by
  refine does (args := [.int .i64 (n : Int)]) Try.func65 rfl (by kernel_rfl) (by kernel_rfl) rfl ent_65 (Sat.start w []) ?_; intro QV hQ
  simp -implicitDefEqProofs (disch := omega) only [go_sem]
  refine RRun_make (n := n) (zv := byte 0) bytes_sl (by rw [zero_5]; rfl) (by omega) (by omega) fun g hg => ?_
  rw [Nat.mul_one, made_bytes]
  simp -implicitDefEqProofs (disch := omega) only [go_sem]
  refine RRun_str_row0 bytes_t Try.underlying9 List.length_replicate ?_
  simp -implicitDefEqProofs (disch := omega) only [go_sem]
  exact hQ _ _ fun w' hs => ⟨rfl, hs.anchor (by simp)⟩
theorem pages_rpage (s : List UInt8) (hl : s.length ≤ 252) (w : World) : Does Try.prog 46 #[str s] w fun v w' => v = str (Pg.pg s) ∧ Ext [] w w' := by
  refine does (args := [str s]) Try.func46 rfl (by kernel_rfl) (by kernel_rfl) rfl ent_46 (Sat.start w []) ?_; intro QV hQ
  have e : (252 : Int) - (s.length : Int) = ((252 - s.length : Nat) : Int) := by omega
  have l1 := Pg.zs_len (252 - s.length)
  have l2 := Pg.pad_len hl
  have l3 := Pg.sumB_len (Pg.pad s)
  have hp : s ++ Pg.zs (252 - s.length) = Pg.pad s := rfl
  simp -implicitDefEqProofs (disch := omega) only [go_sem, e]
  refine RCall_eq (pages_zeros (252 - s.length) (by omega)) ?_
  simp -implicitDefEqProofs (disch := omega) only [go_sem, hp]
  refine RCall_eq (pages_rsum (Pg.pad s) (by omega)) ?_
  simp -implicitDefEqProofs (disch := omega) only [go_sem]
  exact hQ _ _ fun w' hs => ⟨rfl, hs.anchor (by simp)⟩
/-- What a file of the reference holds. -/
structure Pg.RAt (w : World) (gf : Nat) (hd : List UInt8) (v : Value) : Prop where
  lt : gf < w.heap.size
  h : w.cell? ⟨gf, 0, none⟩ = some (str hd)
  p : w.cell? ⟨gf, 1, none⟩ = some v
theorem Pg.rat_of {w : World} {h : List Res} {gf : Nat} {v u : Value} {hd : List UInt8} (hs : Sat w h) (hm : Res.cells gf 39 #[str hd, v, u] ∈ h) : Pg.RAt w gf hd v := by
  obtain ⟨hr, hl⟩ := hs.row hm
  refine ⟨hl, ?_, ?_⟩ <;> (rw [cell_cells hr rfl, if_pos rfl]; rfl)
theorem Pg.RAt.keep {w w' : World} {gf : Nat} {v : Value} {hd : List UInt8} (h : Pg.RAt w gf hd v) (hx : Ext [] w w') : Pg.RAt w' gf hd v := by
  have hb : w'.heap[gf]? = w.heap[gf]? := hx.block gf h.lt (by simp)
  exact ⟨Nat.lt_of_lt_of_le h.lt hx.size, by rw [← h.h]; exact cell_of_block hb, by rw [← h.p]; exact cell_of_block hb⟩
theorem pages_rfirst (gf : Nat) (hd : List UInt8) (hh : hd.length ≤ 200) (a : Option Addr) (k c : Nat) (hk : k < 65536) (w : World) (ha : Pg.RAt w gf hd (.slice a k c)) : Does Try.prog 50 #[.pointer (some ⟨gf, 0, none⟩)] w fun v w' => v = str (Pg.pg (Pg.first (k + 1) hd)) ∧ Ext [] w w' := by
  refine does (args := [.pointer (some ⟨gf, 0, none⟩)]) Try.func50 rfl (by kernel_rfl) (by kernel_rfl) rfl ent_50 (Sat.start w []) ?_; intro QV hQ
  have hlt := ha.lt
  have h0 := ha.h
  have h1 := ha.p
  have e : (1 : Int) + (k : Int) = ((k + 1 : Nat) : Int) := by omega
  simp -implicitDefEqProofs (disch := omega) only [go_sem, h1, e]
  refine RCall_eq (ref_fixed ((k + 1 : Nat) : Int) 4 (by omega)) ?_
  rw [fix4 (k + 1) (by omega)]
  have l1 : (Vint.fixL 4 (k + 1)).length = 4 := Vint.fixL_len _ _
  have l2 : (80 :: 71 :: 70 :: 76 :: Vint.fixL 4 (k + 1)).length = 8 := by simp only [List.length_cons, l1]
  have l3 : (Vint.text hd).length ≤ 1000010 := by
    unfold Vint.text
    have := Vint.putL_len9 hd.length (by omega)
    rw [List.length_append]; omega
  have b0 : strV .add ⟨#[80, 71, 70, 76]⟩ ⟨(Vint.fixL 4 (k + 1)).toArray⟩ = some (str ([80, 71, 70, 76] ++ Vint.fixL 4 (k + 1))) := strV_add [80, 71, 70, 76] _ (by simp only [List.length_cons, List.length_nil]; omega)
  simp -implicitDefEqProofs (disch := omega) only [go_sem, b0, h0]
  refine RCall_eq (ref_text hd (by omega)) ?_
  simp -implicitDefEqProofs (disch := omega) only [go_sem]
  have hf : 80 :: 71 :: 70 :: 76 :: (Vint.fixL 4 (k + 1) ++ Vint.text hd) = Pg.first (k + 1) hd := rfl
  rw [hf]
  refine RCall_eq (pages_rpage (Pg.first (k + 1) hd) (by have := Pg.first_len (n := k + 1) hh; omega)) ?_
  simp -implicitDefEqProofs (disch := omega) only [go_sem]
  exact hQ _ _ fun w' hs => ⟨rfl, hs.anchor (by simp)⟩
theorem str_sl : slT Try.prog 22 9 1 16 := slT_of (by kernel_rfl)
/-- What the reference's Add leaves in a new file. -/
def Pg.RAdded (gf : Nat) (s : List UInt8) (v : Value) (rs : List Res) : Prop := ∃ gp c sp, gf ≠ gp ∧ v = .tuple #[.int .i64 1, .int .i64 0] ∧
  rs = [.cells gp 9 (str (Pg.pg s) :: sp).toArray, .cells gf 39 #[str [], .slice (some ⟨gp, 0, none⟩) 1 c, .int .i64 0]]
set_option maxRecDepth 20000 in
set_option maxHeartbeats 4000000 in
theorem pages_radd (gf : Nat) (s : List UInt8) (hl : s.length ≤ 252) (w : World) (hs0 : Sat w [.cells gf 39 #[str [], .slice none 0 0, .int .i64 0], .anchor w [gf]]) :
    Does Try.prog 18 #[.pointer (some ⟨gf, 0, none⟩), str s] w fun v w' => ∃ rs, Sat w' (rs ++ [.anchor w [gf]]) ∧ Pg.RAdded gf s v rs := by
  refine does (args := [.pointer (some ⟨gf, 0, none⟩), str s]) Try.func18 rfl (by kernel_rfl) (by kernel_rfl) rfl ent_18 (hs0) ?_; intro QV hQ
  have hgl : gf < w.heap.size := hs0.2.1 gf rfl
  have k2 : decide ((252 : Int) < (s.length : Int)) = false := decide_eq_false (by omega)
  simp -implicitDefEqProofs (disch := omega) only [go_sem, k2]
  refine RC_join (fun f h => f 0 = .pointer (some ⟨gf, 0, none⟩) ∧ f 1 = str s ∧ h = [.cells gf 39 #[str [], .slice none 0 0, .int .i64 0], .anchor w [gf]]) (fun J hJ hc => absurd hc (by decide)) (fun J hJ hc => ?_) ?_
  · simp -implicitDefEqProofs (disch := omega) only [go_sem]
    exact hJ _ _ ⟨by (first | (simp -implicitDefEqProofs (disch := omega) only [go_sem]; done) | (simp -implicitDefEqProofs (disch := omega) only [go_sem]; rfl)), by (first | (simp -implicitDefEqProofs (disch := omega) only [go_sem]; done) | (simp -implicitDefEqProofs (disch := omega) only [go_sem]; rfl)), rfl⟩
  rintro f h ⟨e0, e1, rfl⟩
  simp -implicitDefEqProofs (disch := omega) only [go_sem, e0, e1]
  refine RDraw_seg (by kernel_rfl) (by kernel_rfl) 12 rfl ?_
  refine RS_cutR [0, 1, 2, 3, 5, 9, 10] [4, 6, 7, 8, 11] (by decide +kernel) ?_
  refine RS_det (by kernel_rfl) ?_
  repeat (first | refine ToO_step (fun Q hq => by (simp -implicitDefEqProofs (disch := omega) only [go_sem, e0, e1]; exact hq)) ?_ | refine ToO_guard (by (simp -implicitDefEqProofs only [go_sem, e0, e1]; first | done | fail)) (fun Q hq => by (simp -implicitDefEqProofs (disch := omega) only [go_sem, e0, e1]; exact hq)) ?_ | refine ToO_skip (.inl (by (simp -implicitDefEqProofs only [go_sem, e0, e1]; first | done | fail))) ?_ | refine ToO_skip (.inr (by (simp -implicitDefEqProofs only [go_sem, e0, e1]; first | done | fail))) ?_)
  refine ToO_nil ?_
  refine RS_via [8, 11] (fun f h => ∃ g1, below g1 [.cells gf 39 #[str [], .slice none 0 0, .int .i64 0], .anchor w [gf]] ∧ f 0 = .pointer (some ⟨gf, 0, none⟩) ∧ f 19 = .slice none 0 0 ∧ f 22 = .slice (some ⟨g1, 0, none⟩) 1 1 ∧ f 25 = .pointer (some ⟨gf, 1, none⟩) ∧
    h = [.cells g1 9 #[str (Pg.pg s)], .cells gf 39 #[str [], .slice none 0 0, .int .i64 0], .anchor w [gf]]) (fun K' hI => ?_) ?_
  · refine RS_first [4, 6] (by kernel_rfl) ⟨?_, ?_, trivial⟩
    · simp -implicitDefEqProofs (disch := omega) only [go_sem, e0, e1]
      refine RS_first (L := [6, 7, 8, 11]) [6] (by kernel_rfl) ⟨?_, trivial⟩
      simp -implicitDefEqProofs (disch := omega) only [go_sem, e0, e1]
      refine RCall_eq (pages_rpage s hl) ?_
      simp -implicitDefEqProofs (disch := omega) only [go_sem]
      refine RS_first (L := [7, 8, 11]) [7] (by kernel_rfl) ⟨?_, trivial⟩
      simp -implicitDefEqProofs (disch := omega) only [go_sem]
      refine RRun_build1 str_sl rfl fun g1 hg1 => ?_
      simp -implicitDefEqProofs (disch := omega) only [go_sem]
      exact hI _ _ ⟨g1, hg1, by (first | (simp -implicitDefEqProofs (disch := omega) only [go_sem, e0, e1]; done) | (simp -implicitDefEqProofs (disch := omega) only [go_sem, e0, e1]; rfl)), by (first | (simp -implicitDefEqProofs (disch := omega) only [go_sem]; done) | (simp -implicitDefEqProofs (disch := omega) only [go_sem]; rfl)), by (first | (simp -implicitDefEqProofs (disch := omega) only [go_sem]; done) | (simp -implicitDefEqProofs (disch := omega) only [go_sem]; rfl)), by (first | (simp -implicitDefEqProofs (disch := omega) only [go_sem]; done) | (simp -implicitDefEqProofs (disch := omega) only [go_sem]; rfl)), rfl⟩
    · simp -implicitDefEqProofs (disch := omega) only [go_sem, e0, e1]
      refine RCall_eq (pages_rpage s hl) ?_
      simp -implicitDefEqProofs (disch := omega) only [go_sem]
      refine RS_first (L := [4, 7, 8, 11]) [4, 7] (by kernel_rfl) ⟨?_, ?_, trivial⟩
      · simp -implicitDefEqProofs (disch := omega) only [go_sem, e0, e1]
        refine RS_first (L := [7, 8, 11]) [7] (by kernel_rfl) ⟨?_, trivial⟩
        simp -implicitDefEqProofs (disch := omega) only [go_sem]
        refine RRun_build1 str_sl rfl fun g1 hg1 => ?_
        simp -implicitDefEqProofs (disch := omega) only [go_sem]
        exact hI _ _ ⟨g1, hg1, by (first | (simp -implicitDefEqProofs (disch := omega) only [go_sem, e0, e1]; done) | (simp -implicitDefEqProofs (disch := omega) only [go_sem, e0, e1]; rfl)), by (first | (simp -implicitDefEqProofs (disch := omega) only [go_sem]; done) | (simp -implicitDefEqProofs (disch := omega) only [go_sem]; rfl)), by (first | (simp -implicitDefEqProofs (disch := omega) only [go_sem]; done) | (simp -implicitDefEqProofs (disch := omega) only [go_sem]; rfl)), by (first | (simp -implicitDefEqProofs (disch := omega) only [go_sem]; done) | (simp -implicitDefEqProofs (disch := omega) only [go_sem]; rfl)), rfl⟩
      · simp -implicitDefEqProofs (disch := omega) only [go_sem]
        refine RRun_build1 str_sl rfl fun g1 hg1 => ?_
        have hg1' := hg1
        simp only [below_cons, below_nil, under_anchor, under_cells, and_true] at hg1'
        have ng : gf ≠ g1 := Nat.ne_of_lt hg1'.1
        simp -implicitDefEqProofs (disch := omega) only [go_sem]
        refine RS_first (L := [4, 8, 11]) [4] (by kernel_rfl) ⟨?_, trivial⟩
        simp -implicitDefEqProofs (disch := omega) only [go_sem, e0, e1]
        exact hI _ _ ⟨g1, hg1, by (first | (simp -implicitDefEqProofs (disch := omega) only [go_sem, e0, e1]; done) | (simp -implicitDefEqProofs (disch := omega) only [go_sem, e0, e1]; rfl)), by (first | (simp -implicitDefEqProofs (disch := omega) only [go_sem]; done) | (simp -implicitDefEqProofs (disch := omega) only [go_sem]; rfl)), by (first | (simp -implicitDefEqProofs (disch := omega) only [go_sem]; done) | (simp -implicitDefEqProofs (disch := omega) only [go_sem]; rfl)), by (first | (simp -implicitDefEqProofs (disch := omega) only [go_sem]; done) | (simp -implicitDefEqProofs (disch := omega) only [go_sem]; rfl)), rfl⟩
  rintro f h ⟨g1, hg1, e0, e19, e22, e25, rfl⟩
  simp only [below_cons, below_nil, under_anchor, under_cells, and_true] at hg1
  have ng : gf ≠ g1 := Nat.ne_of_lt hg1.1
  refine RS_text (by kernel_rfl) ?_
  simp -implicitDefEqProofs (disch := omega) only [go_sem, e0, e19, e22, e25]
  refine RRun_append_cells (n := 0) (xs := []) (m := 1) str_sl (fun _ hs => hs.2.2.2.own_nil _ _) (by simp) (fun u hu => by simp at hu; subst hu; rfl) (by omega) (by decide) fun a' c' hc' => ?_
  simp -implicitDefEqProofs (disch := omega) only [go_sem, e0, e19, e22, e25]
  refine hQ _ _ fun w' hs => ?_
  obtain ⟨g, c, hv⟩ := own_some hs.1 (by omega)
  injection hv with hv _ hv3
  subst hv hv3
  obtain ⟨sp, hs2, _⟩ := hs.own_cells
  have ng2 : gf ≠ g := cells_ne ⟨w', hs2⟩ (List.mem_cons_self ..)
  exact ⟨[_, _], hs2, g, c', sp, ng2, rfl, rfl⟩
end Go.Proofs.Ytldidoaagijnhaa
