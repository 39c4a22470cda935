/- gzhead's laws: the walks. -/
import Derived.Test.YtlmbebnpnnkhmaaGzH
import Derived.Test.YtlmbebnpnnkhmaaGzN
namespace Go.Proofs.Ytlmbebnpnnkhmaa
set_option linter.unusedSimpArgs false
set_option linter.unusedVariables false
open H
theorem hdV_eq (h : Gz.Hd) : Gz.hdV h = .agg #[.int .i64 h.time, str h.extra, str h.name, str h.note, .int .i64 h.level, .int .i64 h.os, .bool h.text, .bool h.sum, .int .i64 h.flags] := rfl
/-- The numbers of a head among the arguments. -/
structure Gz.Rg (h : Gz.Hd) : Prop where
  fl : -9223372036854775808 ≤ h.flags ∧ h.flags ≤ 9223372036854775807
  tm : -9223372036854775808 ≤ h.time ∧ h.time ≤ 9223372036854775807
  lv : -9223372036854775808 ≤ h.level ∧ h.level ≤ 9223372036854775807
  os : -9223372036854775808 ≤ h.os ∧ h.os ≤ 9223372036854775807
def Gz.lt (h : Gz.Hd) : Prop := h.extra.length ≤ 70000 ∧ h.name.length ≤ 2000 ∧ h.note.length ≤ 2000
instance (h : Gz.Hd) : Decidable (Gz.lt h) := by unfold Gz.lt; infer_instance
theorem Gz.In.of {h : Gz.Hd} (hr : Gz.Rg h) (hl : h.extra.length ≤ 70000 ∧ h.name.length ≤ 70000 ∧ h.note.length ≤ 70000) : Gz.In h := ⟨hr.fl, hr.tm, hr.lv, hr.os, by omega, by omega, by omega⟩
set_option maxHeartbeats 1000000 in
theorem law_light (h : Gz.Hd) (w : World) : Does Try.prog 24 #[Gz.hdV h] w fun v w' => v = .bool (decide (Gz.lt h)) ∧ Ext [] w w' := by
  rw [hdV_eq]
  refine does (args := [.agg #[.int .i64 h.time, str h.extra, str h.name, str h.note, .int .i64 h.level, .int .i64 h.os, .bool h.text, .bool h.sum, .int .i64 h.flags]]) Try.func24 rfl (by kernel_rfl) (by kernel_rfl) rfl ent_24 (Sat.start w []) ?_; intro QV hQ
  simp -implicitDefEqProofs (disch := omega) only [go_sem]
  refine RNew_intro fun g hg => ?_
  by_cases h1 : h.extra.length ≤ 70000
  rotate_left
  · have k : decide ((h.extra.length : Int) ≤ 70000) = false := decide_eq_false (by omega)
    simp -implicitDefEqProofs (disch := omega) only [go_sem, k]
    exact hQ _ _ fun w' hs => ⟨by rw [decide_eq_false (fun x => h1 x.1)], hs.anchor (by simp)⟩
  have k1 : decide ((h.extra.length : Int) ≤ 70000) = true := decide_eq_true (by omega)
  by_cases h2 : h.name.length ≤ 2000
  rotate_left
  · have k : decide ((h.name.length : Int) ≤ 2000) = false := decide_eq_false (by omega)
    simp -implicitDefEqProofs (disch := omega) only [go_sem, k1, k]
    exact hQ _ _ fun w' hs => ⟨by rw [decide_eq_false (fun x => h2 x.2.1)], hs.anchor (by simp)⟩
  have k2 : decide ((h.name.length : Int) ≤ 2000) = true := decide_eq_true (by omega)
  by_cases h3 : h.note.length ≤ 2000
  rotate_left
  · have k : decide ((h.note.length : Int) ≤ 2000) = false := decide_eq_false (by omega)
    simp -implicitDefEqProofs (disch := omega) only [go_sem, k1, k2, k]
    exact hQ _ _ fun w' hs => ⟨by rw [decide_eq_false (fun x => h3 x.2.2)], hs.anchor (by simp)⟩
  have k3 : decide ((h.note.length : Int) ≤ 2000) = true := decide_eq_true (by omega)
  simp -implicitDefEqProofs (disch := omega) only [go_sem, k1, k2, k3]
  exact hQ _ _ fun w' hs => ⟨by rw [decide_eq_true (show Gz.lt h from ⟨h1, h2, h3⟩)], hs.anchor (by simp)⟩
def Gz.k1 : Gz.Hd := ⟨0, [], [], [], 0, 255, false, false, 0⟩
def Gz.k2 : Gz.Hd := ⟨0, [], [97], [], 0, 3, false, false, 8⟩
theorem known_b : Gz.build Gz.k1 = ([31, 139, 8, 0, 0, 0, 0, 0, 0, 255], 0) := by kernel_rfl
theorem known_p : Gz.parse [63, 31, 139, 8, 8, 0, 0, 0, 0, 0, 3, 97, 0, 98] 1 = (Gz.k2, 13, 0) := by kernel_rfl
theorem known_q : Gz.parse [31, 139, 9, 0, 0, 0, 0, 0, 0, 0] 0 = (Gz.h0, 0, 12) := by kernel_rfl
theorem known_r : Gz.parse [31, 139, 8] 0 = (Gz.h0, 0, 2) := by kernel_rfl
theorem known_s : Gz.right Gz.k2 = true := by kernel_rfl
theorem call_build (h : Gz.Hd) (hh : Gz.In h) (hlt : h.name.length ≤ 100000 ∧ h.note.length ≤ 100000) {l : List UInt8} {e : Int} (he : Gz.build h = (l, e)) (w : World) : Does Try.prog 26 #[.agg #[.int .i64 h.time, str h.extra, str h.name, str h.note, .int .i64 h.level, .int .i64 h.os, .bool h.text, .bool h.sum, .int .i64 h.flags]] w fun v w' => v = .tuple #[str l, .int .i64 e] ∧ Ext [] w w' := by
  have := gz_build h hh hlt w
  rw [he] at this
  exact this
theorem call_parse (s : List UInt8) (hsl : s.length ≤ 4611686018427387904) (a : Int) (ha : -9223372036854775808 ≤ a ∧ a ≤ 9223372036854775807) {h : Gz.Hd} {to e : Int} (he : Gz.parse s a = (h, to, e)) (w : World) :
    Does Try.prog 30 #[str s, .int .i64 a] w fun v w' => v = .tuple #[.agg #[.int .i64 h.time, str h.extra, str h.name, str h.note, .int .i64 h.level, .int .i64 h.os, .bool h.text, .bool h.sum, .int .i64 h.flags], .int .i64 to, .int .i64 e] ∧ Ext [] w w' := by
  have := gz_parse s hsl a ha w
  rw [he] at this
  exact this
theorem call_right (h : Gz.Hd) (hh : Gz.In h) {b : Bool} (he : Gz.right h = b) (w : World) : Does Try.prog 28 #[.agg #[.int .i64 h.time, str h.extra, str h.name, str h.note, .int .i64 h.level, .int .i64 h.os, .bool h.text, .bool h.sum, .int .i64 h.flags]] w fun v w' => v = .bool b ∧ Ext [] w w' := by
  have := gz_right h hh w
  rw [he] at this
  exact this
theorem rcall_build (h : Gz.Hd) (hh : Gz.In h) (hlt : h.name.length ≤ 100000 ∧ h.note.length ≤ 100000) {l : List UInt8} {e : Int} (he : Gz.build h = (l, e)) (w : World) : Does Try.prog 27 #[.agg #[.int .i64 h.time, str h.extra, str h.name, str h.note, .int .i64 h.level, .int .i64 h.os, .bool h.text, .bool h.sum, .int .i64 h.flags]] w fun v w' => v = .tuple #[str l, .int .i64 e] ∧ Ext [] w w' := by
  have := rgz_build h hh hlt w
  rw [he] at this
  exact this
theorem rcall_parse (s : List UInt8) (hsl : s.length ≤ 4611686018427387904) (a : Int) (ha : -9223372036854775808 ≤ a ∧ a ≤ 9223372036854775807) {h : Gz.Hd} {to e : Int} (he : Gz.parse s a = (h, to, e)) (w : World) :
    Does Try.prog 31 #[str s, .int .i64 a] w fun v w' => v = .tuple #[.agg #[.int .i64 h.time, str h.extra, str h.name, str h.note, .int .i64 h.level, .int .i64 h.os, .bool h.text, .bool h.sum, .int .i64 h.flags], .int .i64 to, .int .i64 e] ∧ Ext [] w w' := by
  have := rgz_parse s hsl a ha w
  rw [he] at this
  exact this
theorem rcall_right (h : Gz.Hd) (hh : Gz.In h) {b : Bool} (he : Gz.right h = b) (w : World) : Does Try.prog 29 #[.agg #[.int .i64 h.time, str h.extra, str h.name, str h.note, .int .i64 h.level, .int .i64 h.os, .bool h.text, .bool h.sum, .int .i64 h.flags]] w fun v w' => v = .bool b ∧ Ext [] w w' := by
  have := rgz_right h hh w
  rw [he] at this
  exact this
theorem rg_small (h : Gz.Hd) (hf : 0 ≤ h.flags ∧ h.flags ≤ 28) (ht : 0 ≤ h.time ∧ h.time ≤ 4294967295) (hl : 0 ≤ h.level ∧ h.level ≤ 255) (ho : 0 ≤ h.os ∧ h.os ≤ 255) : Gz.Rg h := ⟨by omega, by omega, by omega, by omega⟩
theorem beq_bb (b : Bool) : (b == b) = true := by cases b <;> rfl
set_option maxRecDepth 20000 in
set_option maxHeartbeats 4000000 in
theorem law_known (w : World) : Does Try.prog 25 #[] w fun v w' => v = .bool true ∧ Ext [] w w' := by
  refine does (args := []) Try.func25 rfl (by kernel_rfl) (by kernel_rfl) rfl ent_25 (Sat.start w []) ?_; intro QV hQ
  have i1 : Gz.In Gz.k1 := ⟨by decide, by decide, by decide, by decide, by decide, by decide, by decide⟩
  have i2 : Gz.In Gz.k2 := ⟨by decide, by decide, by decide, by decide, by decide, by decide, by decide⟩
  simp -implicitDefEqProofs (disch := omega) only [go_sem]
  refine RCall_eq (call_build Gz.k1 i1 (by decide) known_b) ?_
  simp -implicitDefEqProofs (disch := omega) only [go_sem]
  refine RCall_eq (call_parse _ (by simp) 1 (by omega) known_p) ?_
  simp -implicitDefEqProofs (disch := omega) only [go_sem]
  refine RNew_intro fun g hg => ?_
  simp only [below_cons, below_nil, under_anchor, and_true] at hg
  simp -implicitDefEqProofs (disch := omega) only [go_sem]
  refine RCall_eq (call_parse _ (by simp) 0 (by omega) known_q) ?_
  simp -implicitDefEqProofs (disch := omega) only [go_sem]
  refine RNew_intro fun g2 hg2 => ?_
  simp only [below_cons, below_nil, under_anchor, under_cells, and_true] at hg2
  have n2 : g ≠ g2 := by omega
  have n2' : g2 ≠ g := by omega
  simp -implicitDefEqProofs (disch := omega) only [go_sem]
  refine RCall_eq (call_parse _ (by simp) 0 (by omega) known_r) ?_
  simp -implicitDefEqProofs (disch := omega) only [go_sem]
  refine RNew_intro fun g3 hg3 => ?_
  simp only [below_cons, below_nil, under_anchor, under_cells, and_true] at hg3
  have n3 : g ≠ g3 := by omega
  have n4 : g2 ≠ g3 := by omega
  have m1 : Gz.k2.time = 0 := rfl
  have m2 : Gz.k2.extra = [] := rfl
  have m3 : Gz.k2.name = [97] := rfl
  have m4 : Gz.k2.note = [] := rfl
  have m5 : Gz.k2.level = 0 := rfl
  have m6 : Gz.k2.os = 3 := rfl
  have m7 : Gz.k2.text = false := rfl
  have m8 : Gz.k2.sum = false := rfl
  have m9 : Gz.k2.flags = 8 := rfl
  simp -implicitDefEqProofs (disch := omega) only [go_sem, decide_true, m1, m2, m3, m4, m5, m6, m7, m8, m9, beq_bb]
  refine RCall_eq (call_right Gz.k2 i2 known_s) ?_
  simp -implicitDefEqProofs (disch := omega) only [go_sem]
  exact hQ _ _ fun w' hs => ⟨rfl, hs.anchor (by simp)⟩
end Go.Proofs.Ytlmbebnpnnkhmaa
