/- pages' laws: the walks. -/
import Derived.Test.YtldidoaagijnhaaPgO
import Derived.Test.YtldidoaagijnhaaPgP
import Derived.Test.YtldidoaagijnhaaCount
namespace Go.Proofs.Ytldidoaagijnhaa
set_option linter.unusedSimpArgs false
set_option linter.unusedVariables false
open H
theorem file_len {n : Nat} {hd R : List UInt8} (hh : hd.length ≤ 200) (hR : R.length = 256 * n) : (Pg.pg (Pg.first (n + 1) hd) ++ R).length = 256 * (n + 1) := by
  have := Pg.pg_len (s := Pg.first (n + 1) hd) (by have := Pg.first_len (n := n + 1) hh; omega)
  rw [List.length_append, this, hR]; omega
/-- What Add leaves, as a file. -/
def Pg.AddC (gf n : Nat) (hd R : List UInt8) (r : Int) (v : Value) (rs : List Res) : Prop := ∃ gb sp, gf ≠ gb ∧ v = .tuple #[.int .i64 (n : Int), .int .i64 0] ∧ rs = [.cells gb 5 ((Pg.pg (Pg.first (n + 1) hd) ++ R).map byte ++ sp).toArray, .cells gf 62 #[.slice (some ⟨gb, 0, none⟩) (256 * (n + 1)) (256 * (n + 1) + sp.length), str hd, .int .i64 r]]
theorem call_add (n : Nat) (hn : n + 1 < 65536) (hd R s : List UInt8) (hh : hd.length ≤ 200) (hR : R.length = 256 * n) (hsl : s.length ≤ 252) (gf gb : Nat) (ng : gf ≠ gb) (sp : List Value) (r : Int) (suf : List Res) (w : World)
    (hs : Sat w ([.cells gb 5 ((Pg.pg (Pg.first (n + 1) hd) ++ R).map byte ++ sp).toArray, .cells gf 62 #[.slice (some ⟨gb, 0, none⟩) (256 * (n + 1)) (256 * (n + 1) + sp.length), str hd, .int .i64 r]] ++ suf)) :
    Does Try.prog 11 #[.pointer (some ⟨gf, 0, none⟩), str s] w fun v w' => ∃ rs, Sat w' (rs ++ [.anchor w [gb, gf]]) ∧ Pg.AddC gf (n + 1) hd (R ++ Pg.pg s) r v rs := by
  have hl := file_len hh hR
  refine (pages_add (n + 1) (by omega) s hsl gf gb ng (Pg.pg (Pg.first (n + 1) hd) ++ R) sp (256 * (n + 1)) (256 * (n + 1) + sp.length) hl.symm (by rw [hl]) hl hd hh r w (hs.reanchors (by simp [Res.fp]))).mono fun v w' ⟨rs, h1, gb', sp', h2, _, h4, h5⟩ => ⟨rs, h1, gb', sp', h2, h4, ?_⟩
  rw [h5, Pg.add_file hh]
theorem call_read (i : Int) (n : Nat) (L hd : List UInt8) (hL : L.length = 256 * (n + 1)) (hn : n ≤ 100) (gf gb : Nat) (ng : gf ≠ gb) (m : Nat) (hm : m = 256 * (n + 1)) (sp : List Value) (r : Int) (hr : 0 ≤ r ∧ r ≤ 1000000000) (suf : List Res) (w : World)
    (hs : Sat w ([.cells gb 5 (L.map byte ++ sp).toArray, .cells gf 62 #[.slice (some ⟨gb, 0, none⟩) m (m + sp.length), str hd, .int .i64 r]] ++ suf)) :
    Does Try.prog 17 #[.pointer (some ⟨gf, 0, none⟩), .int .i64 i] w fun v w' => ∃ rs, Sat w' (rs ++ [.anchor w [gb, gf]]) ∧ 
      (v = (if 1 ≤ i ∧ i < ((n + 1 : Nat) : Int) then .tuple #[str (Pg.rd (Pg.page L i.toNat)).1, .int .i64 (Pg.rd (Pg.page L i.toNat)).2] else .tuple #[str [], .int .i64 1]) ∧ rs = [.cells gb 5 (L.map byte ++ sp).toArray, .cells gf 62 #[.slice (some ⟨gb, 0, none⟩) m (m + sp.length), str hd, .int .i64 (if 1 ≤ i ∧ i < ((n + 1 : Nat) : Int) then r + 1 else r)]]) :=
  pages_read i (n + 1) gf gb ng L sp m (m + sp.length) (by omega) (by omega) (by omega) hL (by omega) hd r hr w (hs.reanchors (by simp [Res.fp]))
theorem pad_a : Pg.pad [97] = [97] ++ Pg.zs 251 := rfl
theorem opn_nil : Pg.opn [] = ([], 2) := by unfold Pg.opn; rw [if_pos (by decide)]
set_option maxRecDepth 20000 in
set_option maxHeartbeats 4000000 in
theorem pages_known (w : World) : Does Try.prog 13 #[] w fun v w' => v = .bool true ∧ Ext [] w w' := by
  refine does (args := []) Try.func13 rfl (by kernel_rfl) (by kernel_rfl) rfl ent_13 (Sat.start w []) ?_; intro QV hQ
  simp -implicitDefEqProofs (disch := omega) only [go_sem]
  refine RCall_newS (fun w1 hs => pages_new w1) ?_
  rintro _ _ ⟨gf, gb, ng, rfl, rfl⟩ _
  simp -implicitDefEqProofs (disch := omega) only [go_sem, Option.isNone_some]
  refine RCall_frameS [.cells gb 5 ((Pg.pg (Pg.first (0 + 1) []) ++ []).map byte ++ []).toArray, .cells gf 62 #[.slice (some ⟨gb, 0, none⟩) (256 * (0 + 1)) (256 * (0 + 1) + [].length), str [], .int .i64 0]] [.anchor w []] [gb, gf] (fun _ h => by simp only [List.append_nil]; exact h) (by simp [Res.fp]) (fun w1 hs => call_add 0 (by omega) [] [] [97] (by simp) rfl (by simp) gf gb ng [] 0 _ w1 hs) ?_
  rintro _ _ ⟨gb2, sp, ng2, rfl, rfl⟩ _
  have hl2 := file_len (n := 1) (hd := []) (R := [] ++ Pg.pg [97]) (by simp) (by rw [List.nil_append, Pg.pg_len (by simp)])
  have hop := Pg.open_file (n := 1) (by omega) (hd := []) (R := [] ++ Pg.pg [97]) (by simp) (by rw [List.nil_append, Pg.pg_len (by simp)])
  have hrd : Pg.rd (Pg.page (Pg.pg (Pg.first (1 + 1) []) ++ ([] ++ Pg.pg [97])) 1) = (Pg.pad [97], 0) := by
    have h1 := Pg.page_file (P := Pg.pg (Pg.first (1 + 1) [])) (R := [] ++ Pg.pg [97]) (Pg.pg_len (by have := Pg.first_len (n := 1 + 1) (hd := []) (by simp); omega)) 0
    have h2 := (Pg.pageR_add (R := []) (s := Pg.pg [97]) (j := 0) (n := 0) rfl (Pg.pg_len (by simp))).1
    rw [show (1 : Nat) = 0 + 1 from rfl, h1, h2, Pg.rd_pg (by simp)]
  generalize hX : Pg.pg (Pg.first (1 + 1) []) ++ ([] ++ Pg.pg [97]) = X at *
  obtain ⟨n2, hn2⟩ : ∃ n2, n2 = 256 * (1 + 1) := ⟨_, rfl⟩
  rw [← hn2]
  have k256 : 256 ≤ n2 := by omega
  have h512 : n2 / 256 = 2 := by omega
  have hXl : X.length = n2 := by omega
  simp -implicitDefEqProofs (disch := omega) only [go_sem]
  refine RCall_frame [.cells gb2 5 (X.map byte ++ sp).toArray, .cells gf 62 #[.slice (some ⟨gb2, 0, none⟩) n2 (n2 + sp.length), str [], .int .i64 0]] [.anchor w []] [gb2, gf] (fun _ h => h) (by simp [Res.fp]) (fun w1 hs => call_read 1 1 X [] (by omega) (by omega) gf gb2 ng2 n2 (by omega) sp 0 (by omega) _ w1 hs) ?_
  rintro _ _ ⟨rfl, rfl⟩
  rw [if_pos (by omega), if_pos (by omega)]
  rw [show (1 : Int).toNat = 1 from rfl, hrd]
  simp -implicitDefEqProofs (disch := omega) only [go_sem]
  refine RCall_frame [.cells gb2 5 (X.map byte ++ sp).toArray, .cells gf 62 #[.slice (some ⟨gb2, 0, none⟩) n2 (n2 + sp.length), str [], .int .i64 1]] [.anchor w []] [gb2, gf] (fun _ h => h) (by simp [Res.fp]) (fun w1 hs => call_read 0 1 X [] (by omega) (by omega) gf gb2 ng2 n2 (by omega) sp 1 (by omega) _ w1 hs) ?_
  rintro _ _ ⟨rfl, rfl⟩
  rw [if_neg (by omega), if_neg (by omega)]
  have hat : ∀ w1 h, Sat w1 h → Res.cells gf 62 #[.slice (some ⟨gb2, 0, none⟩) n2 (n2 + sp.length), str [], .int .i64 1] ∈ h → Pg.At w1 gf (.slice (some ⟨gb2, 0, none⟩) X.length (n2 + sp.length)) [] 1 := fun w1 h hs hm => by rw [hXl]; exact Pg.at_of hs hm
  simp -implicitDefEqProofs (disch := omega) only [go_sem]
  refine RCall_eqS (fun w1 hs => pages_text gf gb2 X (n2 + sp.length) (by omega) [] 1 w1 (hat w1 _ hs (by simp)) (Pg.has_of (t := 5) (sp := sp) hs (by simp))) ?_
  simp -implicitDefEqProofs (disch := omega) only [go_sem]
  refine RCall_newS (fun w1 hs => pages_open X (by omega) w1) ?_
  rintro v rs (⟨h0, go, gob, spo, ngo, rfl, rfl⟩ | ⟨h0, _⟩) _
  rotate_left
  · rw [hop] at h0; exact absurd rfl h0
  simp -implicitDefEqProofs (disch := omega) only [go_sem]
  refine RCall_newS (fun w1 hs => pages_open [] (by simp) w1) ?_
  rintro v rs (⟨h1, _⟩ | ⟨_, rfl, rfl⟩) _
  · rw [opn_nil] at h1; exact absurd h1 (by decide)
  rw [opn_nil]
  have hz : List.replicate 251 (0 : UInt8) = Pg.zs 251 := rfl
  have hb0 : strV .add ⟨#[97]⟩ ⟨(Pg.zs 251).toArray⟩ = some (str (Pg.pad [97])) := by rw [pad_a]; exact strV_add [97] (Pg.zs 251) (by rw [Pg.zs_len]; decide)
  have k11 : decide (((1 : Nat) : Int) = 1) = true := rfl
  simp -implicitDefEqProofs (disch := omega) only [go_sem, decide_true, k11]
  refine RRun_make (n := 251) (zv := byte 0) bytes_sl (by rw [zero_5]; rfl) (by omega) (by omega) fun g9 hg9 => ?_
  rw [Nat.mul_one, made_bytes, hz]
  simp -implicitDefEqProofs (disch := omega) only [go_sem]
  refine RRun_str_row0 bytes_t Try.underlying9 (Pg.zs_len 251) ?_
  simp -implicitDefEqProofs (disch := omega) only [go_sem, hb0, decide_true]
  refine RCall_eqS (fun w1 hs => pages_text gf gb2 X (n2 + sp.length) (by omega) [] 1 w1 (hat w1 _ hs (by simp)) (Pg.has_of (t := 5) (sp := sp) hs (by simp))) ?_
  have k512 : decide ((X.length : Int) = 512) = true := decide_eq_true (by omega)
  simp -implicitDefEqProofs (disch := omega) only [go_sem, k512, Option.isNone_some, decide_true]
  refine RCall_eqS (fun w1 hs => by have := pages_count gf (some ⟨gb2, 0, none⟩) n2 (n2 + sp.length) (by omega) (by omega) [] 1 w1 (Pg.at_of hs (by simp)); rw [h512] at this; exact this) ?_
  have k2 : decide (((2 : Nat) : Int) = 2) = true := rfl
  simp -implicitDefEqProofs (disch := omega) only [go_sem, k2]
  refine RCall_eqS (fun w1 hs => pages_reads gf (some ⟨gb2, 0, none⟩) n2 (n2 + sp.length) (by omega) [] 1 w1 (Pg.at_of hs (by simp))) ?_
  simp -implicitDefEqProofs (disch := omega) only [go_sem, decide_true]
  exact hQ _ _ fun w' hs => ⟨rfl, hs.anchor (by simp)⟩
end Go.Proofs.Ytldidoaagijnhaa
