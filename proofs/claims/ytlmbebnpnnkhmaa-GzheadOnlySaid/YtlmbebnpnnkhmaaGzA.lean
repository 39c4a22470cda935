/- gzhead and its reference: the walks: what is right; numbers; the sum. -/
import Derived.Test.YtlmbebnpnnkhmaaVNum
import Derived.Test.YtlmbebnpnnkhmaaCrcF
import Derived.Test.YtlmbebnpnnkhmaaGzM
import Derived.Test.YtlmbebnpnnkhmaaRead
import Derived.Test.YtlmbebnpnnkhmaaAgg
import Derived.Test.YtlmbebnpnnkhmaaMut
import Derived.Test.YtlmbebnpnnkhmaaJoin
namespace Go.Proofs.Ytlmbebnpnnkhmaa
set_option linter.unusedSimpArgs false
set_option linter.unusedVariables false
open H
-- flags
theorem andNot28 (f : Int) (hf : -9223372036854775808 ≤ f ∧ f ≤ 9223372036854775807) : decide (bits BinOp.andNot IntKind.i64 f 28 = 0) = Gz.okF f := by
  by_cases hr : 0 ≤ f ∧ f ≤ 28
  · obtain ⟨n, rfl⟩ := Int.eq_ofNat_of_zero_le hr.1
    have : ∀ n : Nat, n < 29 → decide (bits BinOp.andNot IntKind.i64 (n : Int) 28 = 0) = Gz.okF (n : Int) := by decide +kernel
    exact this n (by omega)
  · have h1 : Gz.okF f = false := by unfold Gz.okF; rw [decide_eq_false_iff_not]; omega
    rw [h1, decide_eq_false_iff_not]
    intro h
    have h2 : IntKind.i64.wrap ((BitVec.ofInt 64 f &&& ~~~ (28#64)).toNat : Int) = 0 := h
    rw [IntKind.wrap_i64] at h2
    have hlt := (BitVec.ofInt 64 f &&& ~~~ (28#64)).isLt
    have h3 : (BitVec.ofInt 64 f &&& ~~~ (28#64)).toNat = 0 := by omega
    have h4 : BitVec.ofInt 64 f &&& ~~~ (28#64) = 0#64 := BitVec.eq_of_toNat_eq (by rw [h3]; rfl)
    have h5 : BitVec.ofInt 64 f = BitVec.ofInt 64 f &&& 28#64 := by
      apply BitVec.eq_of_getLsbD_eq
      intro i hi
      have h6 := congrArg (fun x : BitVec 64 => x.getLsbD i) h4
      simp only [BitVec.getLsbD_and, BitVec.getLsbD_not, hi, decide_true, Bool.true_and] at h6
      rw [BitVec.getLsbD_and]
      cases hx : (BitVec.ofInt 64 f).getLsbD i
      · rfl
      · rw [hx] at h6
        simp at h6
        simp [h6]
    have h6 : (BitVec.ofInt 64 f).toNat ≤ 28 := by
      rw [h5, BitVec.toNat_and]
      exact Nat.and_le_right
    rw [BitVec.toNat_ofInt] at h6
    have : ((2 ^ 64 : Nat) : Int) = 18446744073709551616 := rfl
    rw [this] at h6
    omega
theorem and_bits {F : Nat} (hF : F < 32) (b : Nat) (hb : b = 1 ∨ b = 2 ∨ b = 4 ∨ b = 8 ∨ b = 16) : bits BinOp.and IntKind.i64 (F : Int) (b : Int) = if Gz.has F b = true then (b : Int) else 0 := by
  have : ∀ F : Nat, F < 32 → ∀ b ∈ [1, 2, 4, 8, 16], bits BinOp.and IntKind.i64 (F : Int) ((b : Nat) : Int) = if Gz.has F b = true then ((b : Nat) : Int) else 0 := by decide +kernel
  exact this F hF b (by simp; omega)
theorem and_zero {F : Nat} (hF : F < 32) (b : Nat) (hb : b = 1 ∨ b = 2 ∨ b = 4 ∨ b = 8 ∨ b = 16) : decide (bits BinOp.and IntKind.i64 (F : Int) (b : Int) = 0) = !Gz.has F b := by
  rw [and_bits hF b hb]
  cases Gz.has F b
  · rfl
  · simp; omega
theorem and28 {F : Nat} (hF : F < 32) : bits BinOp.and IntKind.i64 (F : Int) 28 = ((F / 4 * 4 : Nat) : Int) := by
  have : ∀ F : Nat, F < 32 → bits BinOp.and IntKind.i64 (F : Int) 28 = ((F / 4 * 4 : Nat) : Int) := by decide +kernel
  exact this F hF
theorem andNot31 {F : Nat} (hF : F < 256) : decide (bits BinOp.andNot IntKind.i64 (F : Int) 31 = 0) = decide (F < 32) := by
  have : ∀ F : Nat, F < 256 → decide (bits BinOp.andNot IntKind.i64 (F : Int) 31 = 0) = decide (F < 32) := by decide +kernel
  exact this F hF
theorem or1 {F : Nat} (hF : F < 32) (h4 : F % 4 = 0) : bits BinOp.or IntKind.i64 (F : Int) 1 = ((F + 1 : Nat) : Int) := by
  have : ∀ F : Nat, F < 32 → F % 4 = 0 → bits BinOp.or IntKind.i64 (F : Int) 1 = ((F + 1 : Nat) : Int) := by decide +kernel
  exact this F hF h4
theorem or2 {F : Nat} (hF : F < 32) (h4 : F % 4 ≤ 1) : bits BinOp.or IntKind.i64 (F : Int) 2 = ((F + 2 : Nat) : Int) := by
  have : ∀ F : Nat, F < 32 → F % 4 ≤ 1 → bits BinOp.or IntKind.i64 (F : Int) 2 = ((F + 2 : Nat) : Int) := by decide +kernel
  exact this F hF h4
theorem sum_low (s : List UInt8) : (Crc.of s &&& 65535#32).toNat = Gz.sumOf s := by
  rw [BitVec.toNat_and]
  unfold Gz.sumOf
  exact Nat.and_two_pow_sub_one_eq_mod _ 16
theorem sum_rem (s : List UInt8) : (Crc.of s % 65536#32).toNat = Gz.sumOf s := by
  rw [BitVec.toNat_umod]; rfl

set_option maxHeartbeats 1000000 in
theorem gz_between (n hi : Int) (w : World) : Does Try.prog 46 #[.int .i64 n, .int .i64 hi] w fun v w' => v = .bool (decide (0 ≤ n ∧ n ≤ hi)) ∧ Ext [] w w' := by
  refine does (args := [.int .i64 n, .int .i64 hi]) Try.func46 rfl (by kernel_rfl) (by kernel_rfl) rfl ent_46 (Sat.start w []) ?_; intro QV hQ
  by_cases h1 : 0 ≤ n
  · by_cases h2 : n ≤ hi
    · simp -implicitDefEqProofs (disch := omega) only [go_sem, h1, h2, decide_true]
      exact hQ _ _ fun w' hs => ⟨by rw [decide_eq_true ⟨h1, h2⟩], hs.anchor (by simp)⟩
    · simp -implicitDefEqProofs (disch := omega) only [go_sem, h1, h2, decide_true, decide_false]
      exact hQ _ _ fun w' hs => ⟨by rw [decide_eq_false (fun h => h2 h.2)], hs.anchor (by simp)⟩
  · simp -implicitDefEqProofs (disch := omega) only [go_sem, h1, decide_false]
    exact hQ _ _ fun w' hs => ⟨by rw [decide_eq_false (fun h => h1 h.1)], hs.anchor (by simp)⟩
theorem bare_take {s : List UInt8} {i : Nat} (hi : i < s.length) : Gz.bare (s.take (i + 1)) = (Gz.bare (s.take i) && (s.getD i 0 != 0)) := by
  unfold Gz.bare
  rw [List.take_add_one, List.getElem?_eq_getElem hi, List.all_append, List.getD_eq_getElem?_getD, List.getElem?_eq_getElem hi]
  simp
theorem bare_not {s : List UInt8} {i : Nat} (hi : i < s.length) (h : s.getD i 0 = 0) : Gz.bare s = false := by
  unfold Gz.bare
  rw [List.all_eq_false]
  refine ⟨0, ?_, by decide⟩
  rw [← h, List.getD_eq_getElem?_getD, List.getElem?_eq_getElem hi]
  exact List.getElem_mem _

set_option maxHeartbeats 1000000 in
theorem gz_ends (s : List UInt8) (hl : s.length ≤ 9223372036854775806) (w : World) : Does Try.prog 47 #[str s] w fun v w' => v = .bool (Gz.bare s) ∧ Ext [] w w' := by
  refine does (args := [str s]) Try.func47 rfl (by kernel_rfl) (by kernel_rfl) rfl ent_47 (Sat.start w []) ?_; intro QV hQ
  simp -implicitDefEqProofs (disch := omega) only [go_sem]
  refine RLoop_intro (fun f h => ∃ i : Nat, i ≤ s.length ∧ Gz.bare (s.take i) = true ∧ f 0 = str s ∧ f 5 = .int .i64 (s.length : Int) ∧ f 6 = .int .i64 (i : Int) ∧ h = [.anchor w []]) (fun f _ => (s.length - ival (f 6)).toNat) ?_ ?_
  · exact ⟨0, by omega, rfl, by (first | (simp -implicitDefEqProofs (disch := omega) only [go_sem]; done) | (simp -implicitDefEqProofs (disch := omega) only [go_sem]; rfl)), by (first | (simp -implicitDefEqProofs (disch := omega) only [go_sem]; done) | (simp -implicitDefEqProofs (disch := omega) only [go_sem]; rfl)), by (first | (simp -implicitDefEqProofs (disch := omega) only [go_sem]; done) | (simp -implicitDefEqProofs (disch := omega) only [go_sem]; rfl)), rfl⟩
  rintro f h ⟨i, hi, hb, e0, e5, e6, rfl⟩ Q' hQ'
  simp -implicitDefEqProofs (disch := omega) only [go_sem, e0, e5, e6]
  refine RC_intro (fun hc => ?_) (fun hc => ?_)
  · simp only [decide_eq_true_eq] at hc
    have hi' : i < s.length := by omega
    simp -implicitDefEqProofs (disch := omega) only [go_sem, e0, e5, e6]
    refine RC_intro (fun h0 => ?_) (fun h0 => ?_)
    · simp only [decide_eq_true_eq] at h0
      simp -implicitDefEqProofs (disch := omega) only [go_sem]
      exact hQ _ _ fun w' hs => ⟨by rw [bare_not hi' h0], hs.anchor (by simp)⟩
    · simp only [decide_eq_false_iff_not] at h0
      simp -implicitDefEqProofs (disch := omega) only [go_sem, e0, e5, e6]
      refine hQ' _ _ _ (fun _ h => h) ⟨i + 1, by omega, by rw [bare_take hi', hb]; simpa using h0, by (first | (simp -implicitDefEqProofs (disch := omega) only [go_sem, e0, e5, e6]; done) | (simp -implicitDefEqProofs (disch := omega) only [go_sem, e0, e5, e6]; rfl)), by (first | (simp -implicitDefEqProofs (disch := omega) only [go_sem, e0, e5, e6]; done) | (simp -implicitDefEqProofs (disch := omega) only [go_sem, e0, e5, e6]; rfl)), by (first | (simp -implicitDefEqProofs (disch := omega) only [go_sem, e0, e5, e6]; done) | (simp -implicitDefEqProofs (disch := omega) only [go_sem, e0, e5, e6]; rfl)), rfl⟩ ?_
      simp -implicitDefEqProofs (disch := omega) only [go_sem, e0, e5, e6]; omega
  · simp only [decide_eq_false_iff_not] at hc
    have : i = s.length := by omega
    subst this
    rw [List.take_length] at hb
    simp -implicitDefEqProofs (disch := omega) only [go_sem]
    exact hQ _ _ fun w' hs => ⟨by rw [hb], hs.anchor (by simp)⟩

set_option maxHeartbeats 1000000 in
theorem rgz_bare (s : List UInt8) (hl : s.length ≤ 9223372036854775806) (w : World) : Does Try.prog 48 #[str s] w fun v w' => v = .bool (Gz.bare s) ∧ Ext [] w w' := by
  refine does (args := [str s]) Try.func48 rfl (by kernel_rfl) (by kernel_rfl) rfl ent_48 (Sat.start w []) ?_; intro QV hQ
  simp -implicitDefEqProofs (disch := omega) only [go_sem]
  refine RLoop_intro (fun f h => ∃ i : Nat, i ≤ s.length ∧ Gz.bare (s.take i) = true ∧ f 0 = str s ∧ f 3 = .int .i64 (i : Int) ∧ h = [.anchor w []]) (fun f _ => (s.length - ival (f 3)).toNat) ?_ ?_
  · exact ⟨0, by omega, rfl, by (first | (simp -implicitDefEqProofs (disch := omega) only [go_sem]; done) | (simp -implicitDefEqProofs (disch := omega) only [go_sem]; rfl)), by (first | (simp -implicitDefEqProofs (disch := omega) only [go_sem]; done) | (simp -implicitDefEqProofs (disch := omega) only [go_sem]; rfl)), rfl⟩
  rintro f h ⟨i, hi, hb, e0, e3, rfl⟩ Q' hQ'
  simp -implicitDefEqProofs (disch := omega) only [go_sem, e0, e3]
  refine RC_intro (fun hc => ?_) (fun hc => ?_)
  · simp only [decide_eq_true_eq] at hc
    have hi' : i < s.length := by omega
    simp -implicitDefEqProofs (disch := omega) only [go_sem, e0, e3]
    refine RC_intro (fun h0 => ?_) (fun h0 => ?_)
    · simp only [decide_eq_true_eq] at h0
      simp -implicitDefEqProofs (disch := omega) only [go_sem]
      exact hQ _ _ fun w' hs => ⟨by rw [bare_not hi' h0], hs.anchor (by simp)⟩
    · simp only [decide_eq_false_iff_not] at h0
      simp -implicitDefEqProofs (disch := omega) only [go_sem, e0, e3]
      refine hQ' _ _ _ (fun _ h => h) ⟨i + 1, by omega, by rw [bare_take hi', hb]; simpa using h0, by (first | (simp -implicitDefEqProofs (disch := omega) only [go_sem, e0, e3]; done) | (simp -implicitDefEqProofs (disch := omega) only [go_sem, e0, e3]; rfl)), by (first | (simp -implicitDefEqProofs (disch := omega) only [go_sem, e0, e3]; done) | (simp -implicitDefEqProofs (disch := omega) only [go_sem, e0, e3]; rfl)), rfl⟩ ?_
      simp -implicitDefEqProofs (disch := omega) only [go_sem, e0, e3]; omega
  · simp only [decide_eq_false_iff_not] at hc
    have : i = s.length := by omega
    subst this
    rw [List.take_length] at hb
    simp -implicitDefEqProofs (disch := omega) only [go_sem]
    exact hQ _ _ fun w' hs => ⟨by rw [hb], hs.anchor (by simp)⟩

theorem gz_sum (s : List UInt8) (hl : s.length ≤ 9223372036854775807) (w : World) : Does Try.prog 42 #[str s] w fun v w' => v = .int .i64 (Gz.sumOf s : Int) ∧ Ext [] w w' := by
  refine does (args := [str s]) Try.func42 rfl (by kernel_rfl) (by kernel_rfl) rfl ent_42 (Sat.start w []) ?_; intro QV hQ
  simp -implicitDefEqProofs (disch := omega) only [go_sem]
  refine RCall_eq (crc_of s hl) ?_
  simp -implicitDefEqProofs (disch := omega) only [go_sem]
  exact hQ _ _ fun w' hs => ⟨by rw [sum_low], hs.anchor (by simp)⟩
theorem rgz_has (F b : Nat) (hb : 0 < b) (hF : F < 256) (w : World) : Does Try.prog 44 #[.int .i64 (F : Int), .int .i64 (b : Int)] w fun v w' => v = .bool (Gz.has F b) ∧ Ext [] w w' := by
  refine does (args := [.int .i64 (F : Int), .int .i64 (b : Int)]) Try.func44 rfl (by kernel_rfl) (by kernel_rfl) rfl ent_44 (Sat.start w []) ?_; intro QV hQ
  obtain ⟨q, hq⟩ : ∃ q, q = F / b := ⟨_, rfl⟩
  have hquo : (F : Int).tdiv (b : Int) = (q : Int) := by rw [Int.tdiv_eq_ediv_of_nonneg (by omega), hq]; rfl
  have hq2 : q ≤ F := by rw [hq]; exact Nat.div_le_self _ _
  obtain ⟨r, hr⟩ : ∃ r, r = q % 2 := ⟨_, rfl⟩
  have hrem : (q : Int).tmod 2 = (r : Int) := by rw [Int.tmod_eq_emod_of_nonneg (by omega), hr]; omega
  have hne : ((b : Int) ≠ 0) := by omega
  simp -implicitDefEqProofs (disch := omega) only [go_sem, hquo, hrem, hne]
  refine hQ _ _ fun w' hs => ⟨?_, hs.anchor (by simp)⟩
  unfold Gz.has
  rw [← hq, ← hr]
  congr 1
  rw [decide_eq_decide]; omega
theorem rgz_num (n wd : Int) (hn : -9223372036854775808 ≤ n ∧ n ≤ 9223372036854775807) (w : World) : Does Try.prog 43 #[.int .i64 n, .int .i64 wd] w fun v w' => v = str (Vint.fixed n wd).1 ∧ Ext [] w w' := by
  refine does (args := [.int .i64 n, .int .i64 wd]) Try.func43 rfl (by kernel_rfl) (by kernel_rfl) rfl ent_43 (Sat.start w []) ?_; intro QV hQ
  simp -implicitDefEqProofs (disch := omega) only [go_sem]
  refine RCall_eq (ref_fixed n wd hn) ?_
  simp -implicitDefEqProofs (disch := omega) only [go_sem]
  exact hQ _ _ fun w' hs => ⟨rfl, hs.anchor (by simp)⟩
theorem fixed_len (n wd : Int) : (Vint.fixed n wd).1.length ≤ 8 := by
  unfold Vint.fixed
  split
  · simp
  · rename_i h
    split
    · rw [Vint.fixL_len]; unfold Vint.wide at h; omega
    · simp
set_option maxHeartbeats 1000000 in
theorem gz_put (n wd : Int) (hn : -9223372036854775808 ≤ n ∧ n ≤ 9223372036854775807) (g : Nat) (s : List UInt8) (hsl : s.length ≤ 9223372036854775000) (w : World) (hr : Row w g 9 #[str s]) (hg : g < w.heap.size) :
    Does Try.prog 40 #[.int .i64 n, .int .i64 wd, .pointer (some ⟨g, 0, none⟩)] w fun v w' => ∃ cs', Row w' g 9 cs' ∧ Ext [g] w w' ∧ (v = .tuple #[] ∧ cs' = #[str (s ++ (Vint.fixed n wd).1)]) := by
  refine does (args := [.int .i64 n, .int .i64 wd, .pointer (some ⟨g, 0, none⟩)]) Try.func40 rfl (by kernel_rfl) (by kernel_rfl) rfl ent_40 (Sat.one hr hg) ?_; intro QV hQ
  have hl := fixed_len n wd
  simp -implicitDefEqProofs (disch := omega) only [go_sem]
  refine RCall_eq (vint_fixed n wd hn) ?_
  simp -implicitDefEqProofs (disch := omega) only [go_sem]
  exact hQ _ _ fun w' hs => ⟨_, (hs.row (by simp)).1, hs.anchor (by simp), rfl, rfl⟩

def Gz.hdV (h : Gz.Hd) : Value := .agg (List.toArray [.int .i64 h.time, str h.extra, str h.name, str h.note, .int .i64 h.level, .int .i64 h.os, .bool h.text, .bool h.sum, .int .i64 h.flags])
/-- What can be said of any head among the arguments. -/
structure Gz.In (h : Gz.Hd) : Prop where
  fl : -9223372036854775808 ≤ h.flags ∧ h.flags ≤ 9223372036854775807
  tm : -9223372036854775808 ≤ h.time ∧ h.time ≤ 9223372036854775807
  lv : -9223372036854775808 ≤ h.level ∧ h.level ≤ 9223372036854775807
  os : -9223372036854775808 ≤ h.os ∧ h.os ≤ 9223372036854775807
  ex : h.extra.length ≤ 9223372036854770000
  nm : h.name.length ≤ 9223372036854770000
  nt : h.note.length ≤ 9223372036854770000
theorem okF_low {f : Int} (h : Gz.okF f = true) : ∃ F : Nat, f = (F : Int) ∧ F < 32 ∧ F % 4 = 0 := by
  unfold Gz.okF at h
  rw [decide_eq_true_eq] at h
  obtain ⟨F, rfl⟩ := Int.eq_ofNat_of_zero_le h.1
  exact ⟨F, rfl, by omega, by omega⟩
theorem fits_of {F b : Nat} {s : List UInt8} : Gz.fits F b s = (Gz.has F b || decide (s = [])) := rfl
set_option maxRecDepth 20000 in
set_option maxHeartbeats 4000000 in
theorem gz_right (h : Gz.Hd) (hh : Gz.In h) (w : World) : Does Try.prog 28 #[Gz.hdV h] w fun v w' => v = .bool (Gz.right h) ∧ Ext [] w w' := by
  obtain ⟨tm, ex, nm, nt, lv, os, tx, sm, fl⟩ := h
  obtain ⟨hf, _, _, _, hex, hnm, hnt⟩ := hh
  simp only at hf hex hnm hnt
  unfold Gz.hdV
  refine does (args := [.agg #[.int .i64 tm, str ex, str nm, str nt, .int .i64 lv, .int .i64 os, .bool tx, .bool sm, .int .i64 fl]]) Try.func28 rfl (by kernel_rfl) (by kernel_rfl) rfl ent_28 (Sat.start w []) ?_; intro QV hQ
  have hb := andNot28 fl hf
  have hR : Gz.right ⟨tm, ex, nm, nt, lv, os, tx, sm, fl⟩ = ((Gz.okF fl && decide ((0 ≤ tm ∧ tm ≤ 4294967295) ∧ (0 ≤ lv ∧ lv ≤ 255) ∧ (0 ≤ os ∧ os ≤ 255))) && ((Gz.fits fl.toNat 4 ex && (Gz.fits fl.toNat 8 nm && Gz.fits fl.toNat 16 nt)) && (decide (ex.length ≤ 65535) && (Gz.bare nm && Gz.bare nt)))) := rfl
  rw [hR] at hQ
  cases hok : Gz.okF fl with
  | false =>
    rw [hok] at hb hQ
    simp -implicitDefEqProofs (disch := omega) only [go_sem, hb]
    refine RNew_intro fun g hg => ?_
    simp only [below_cons, below_nil, under_anchor, and_true] at hg
    simp -implicitDefEqProofs (disch := omega) only [go_sem, hb]
    exact hQ _ _ fun w' hs => ⟨rfl, hs.anchor (by simp)⟩
  | true =>
  rw [hok] at hb hQ
  obtain ⟨F, rfl, hF, hF4⟩ := okF_low hok
  rw [Int.toNat_natCast] at hQ
  simp -implicitDefEqProofs (disch := omega) only [go_sem, hb]
  refine RNew_intro fun g hg => ?_
  simp only [below_cons, below_nil, under_anchor, and_true] at hg
  simp -implicitDefEqProofs (disch := omega) only [go_sem, hb]
  refine RCall_eq (gz_between tm 4294967295) ?_
  by_cases h1 : 0 ≤ tm ∧ tm ≤ 4294967295
  rotate_left
  · simp -implicitDefEqProofs (disch := omega) only [go_sem, decide_eq_false h1]
    exact hQ _ _ fun w' hs => ⟨by simp [h1], hs.anchor (by simp)⟩
  simp -implicitDefEqProofs (disch := omega) only [go_sem, decide_eq_true h1]
  refine RCall_eq (gz_between lv 255) ?_
  by_cases h2 : 0 ≤ lv ∧ lv ≤ 255
  rotate_left
  · simp -implicitDefEqProofs (disch := omega) only [go_sem, decide_eq_false h2]
    exact hQ _ _ fun w' hs => ⟨by simp [h2], hs.anchor (by simp)⟩
  simp -implicitDefEqProofs (disch := omega) only [go_sem, decide_eq_true h2]
  refine RCall_eq (gz_between os 255) ?_
  by_cases h3 : 0 ≤ os ∧ os ≤ 255
  rotate_left
  · simp -implicitDefEqProofs (disch := omega) only [go_sem, decide_eq_false h3]
    exact hQ _ _ fun w' hs => ⟨by simp [h3], hs.anchor (by simp)⟩
  have hrng : decide ((0 ≤ tm ∧ tm ≤ 4294967295) ∧ (0 ≤ lv ∧ lv ≤ 255) ∧ (0 ≤ os ∧ os ≤ 255)) = true := decide_eq_true ⟨h1, h2, h3⟩
  rw [hrng, Bool.and_true, Bool.true_and] at hQ
  simp -implicitDefEqProofs (disch := omega) only [go_sem, decide_eq_true h3]
  refine RRun_buildz (e := 78) [.agg #[.int .i64 4, str ex], .agg #[.int .i64 8, str nm], .agg #[.int .i64 16, str nt]] [.int .i64 4, str ex, .int .i64 8, str nm, .int .i64 16, str nt] (slT_of (z := 2) (b := 24) (by kernel_rfl)) (by rfl) rfl (by omega) (by simp [Value.cells]) (by simp [Value.cells, str]) (by omega) fun g2 hg2 => ?_
  simp only [below_cons, below_nil, under_anchor, under_cells, and_true] at hg2
  have ng : g ≠ g2 := Nat.ne_of_lt hg2.1
  have ng' : g2 ≠ g := Ne.symm ng
  simp -implicitDefEqProofs (disch := omega) only [go_sem]
  refine RLoop_intro (fun f h => ∃ i : Nat, i ≤ 3 ∧ (1 ≤ i → Gz.fits F 4 ex = true) ∧ (2 ≤ i → Gz.fits F 8 nm = true) ∧ (3 ≤ i → Gz.fits F 16 nt = true) ∧ f 1 = .pointer (some ⟨g, 0, none⟩) ∧ f 36 = .slice (some ⟨g2, 0, none⟩) 3 3 ∧ f 37 = .int .i64 3 ∧ f 38 = .int .i64 (i : Int) ∧
    h = [.cells g2 78 #[.int .i64 4, str ex, .int .i64 8, str nm, .int .i64 16, str nt], .cells g 49 #[.int .i64 tm, str ex, str nm, str nt, .int .i64 lv, .int .i64 os, .bool tx, .bool sm, .int .i64 (F : Int)], .anchor w []]) (fun f _ => (3 - ival (f 38)).toNat) ?_ ?_
  · exact ⟨0, by omega, by omega, by omega, by omega, by (first | (simp -implicitDefEqProofs (disch := omega) only [go_sem]; done) | (simp -implicitDefEqProofs (disch := omega) only [go_sem]; rfl)), by (first | (simp -implicitDefEqProofs (disch := omega) only [go_sem]; done) | (simp -implicitDefEqProofs (disch := omega) only [go_sem]; rfl)), by (first | (simp -implicitDefEqProofs (disch := omega) only [go_sem]; done) | (simp -implicitDefEqProofs (disch := omega) only [go_sem]; rfl)), by (first | (simp -implicitDefEqProofs (disch := omega) only [go_sem]; done) | (simp -implicitDefEqProofs (disch := omega) only [go_sem]; rfl)), rfl⟩
  rintro f h ⟨i, hi, k4, k8, k16, e1, e36, e37, e38, rfl⟩ Q' hQ'
  obtain rfl | rfl | rfl | rfl : i = 0 ∨ i = 1 ∨ i = 2 ∨ i = 3 := by omega
  · have hz : decide (bits BinOp.and IntKind.i64 (F : Int) 4 = 0) = !Gz.has F 4 := and_zero hF 4 (by omega)
    simp -implicitDefEqProofs (disch := omega) only [go_sem, e1, e36, e37, e38, Int.cast_ofNat_Int, Nat.reduceMul, decide_true]
    refine RNew_intro fun g3 hg3 => ?_
    simp only [below_cons, below_nil, under_anchor, under_cells, and_true] at hg3
    have n1 : g ≠ g3 := by omega
    have n2 : g2 ≠ g3 := by omega
    have n3 : g3 ≠ g := by omega
    have n4 : g3 ≠ g2 := by omega
    cases hhas : Gz.has F 4 with
    | true =>
      have hfit : Gz.fits F 4 ex = true := by rw [fits_of, hhas]; rfl
      rw [hhas] at hz
      simp -implicitDefEqProofs (disch := omega) only [go_sem, e1, e36, e37, e38, hz]
      refine hQ' _ _ _ (fun _ h => h.2.2.2) ⟨1, by omega, fun _ => hfit, by omega, by omega, by (first | (simp -implicitDefEqProofs (disch := omega) only [go_sem, e1, e36, e37, e38]; done) | (simp -implicitDefEqProofs (disch := omega) only [go_sem, e1, e36, e37, e38]; rfl)), by (first | (simp -implicitDefEqProofs (disch := omega) only [go_sem, e1, e36, e37, e38]; done) | (simp -implicitDefEqProofs (disch := omega) only [go_sem, e1, e36, e37, e38]; rfl)), by (first | (simp -implicitDefEqProofs (disch := omega) only [go_sem, e1, e36, e37, e38]; done) | (simp -implicitDefEqProofs (disch := omega) only [go_sem, e1, e36, e37, e38]; rfl)), by (first | (simp -implicitDefEqProofs (disch := omega) only [go_sem, e1, e36, e37, e38]; done) | (simp -implicitDefEqProofs (disch := omega) only [go_sem, e1, e36, e37, e38]; rfl)), rfl⟩ ?_
      simp -implicitDefEqProofs (disch := omega) only [go_sem, e1, e36, e37, e38]; decide
    | false =>
      rw [hhas] at hz
      by_cases hx : ex = []
      · have hfit : Gz.fits F 4 ex = true := by rw [fits_of, hx]; simp
        have hx' : decide (ex = []) = true := decide_eq_true hx
        simp -implicitDefEqProofs (disch := omega) only [go_sem, e1, e36, e37, e38, hz, hx']
        refine hQ' _ _ _ (fun _ h => h.2.2.2) ⟨1, by omega, fun _ => hfit, by omega, by omega, by (first | (simp -implicitDefEqProofs (disch := omega) only [go_sem, e1, e36, e37, e38]; done) | (simp -implicitDefEqProofs (disch := omega) only [go_sem, e1, e36, e37, e38]; rfl)), by (first | (simp -implicitDefEqProofs (disch := omega) only [go_sem, e1, e36, e37, e38]; done) | (simp -implicitDefEqProofs (disch := omega) only [go_sem, e1, e36, e37, e38]; rfl)), by (first | (simp -implicitDefEqProofs (disch := omega) only [go_sem, e1, e36, e37, e38]; done) | (simp -implicitDefEqProofs (disch := omega) only [go_sem, e1, e36, e37, e38]; rfl)), by (first | (simp -implicitDefEqProofs (disch := omega) only [go_sem, e1, e36, e37, e38]; done) | (simp -implicitDefEqProofs (disch := omega) only [go_sem, e1, e36, e37, e38]; rfl)), rfl⟩ ?_
        simp -implicitDefEqProofs (disch := omega) only [go_sem, e1, e36, e37, e38]; decide
      · have hfit : Gz.fits F 4 ex = false := by rw [fits_of, hhas]; simp [hx]
        have hx' : decide (ex = []) = false := decide_eq_false hx
        simp -implicitDefEqProofs (disch := omega) only [go_sem, e1, e36, e37, e38, hz, hx']
        exact hQ _ _ fun w' hs => ⟨by simp [hfit], hs.anchor (by simp)⟩
  · have hz : decide (bits BinOp.and IntKind.i64 (F : Int) 8 = 0) = !Gz.has F 8 := and_zero hF 8 (by omega)
    simp -implicitDefEqProofs (disch := omega) only [go_sem, e1, e36, e37, e38, Int.cast_ofNat_Int, Nat.reduceMul, decide_true]
    refine RNew_intro fun g3 hg3 => ?_
    simp only [below_cons, below_nil, under_anchor, under_cells, and_true] at hg3
    have n1 : g ≠ g3 := by omega
    have n2 : g2 ≠ g3 := by omega
    have n3 : g3 ≠ g := by omega
    have n4 : g3 ≠ g2 := by omega
    cases hhas : Gz.has F 8 with
    | true =>
      have hfit : Gz.fits F 8 nm = true := by rw [fits_of, hhas]; rfl
      rw [hhas] at hz
      simp -implicitDefEqProofs (disch := omega) only [go_sem, e1, e36, e37, e38, hz]
      refine hQ' _ _ _ (fun _ h => h.2.2.2) ⟨2, by omega, fun _ => k4 (by omega), fun _ => hfit, by omega, by (first | (simp -implicitDefEqProofs (disch := omega) only [go_sem, e1, e36, e37, e38]; done) | (simp -implicitDefEqProofs (disch := omega) only [go_sem, e1, e36, e37, e38]; rfl)), by (first | (simp -implicitDefEqProofs (disch := omega) only [go_sem, e1, e36, e37, e38]; done) | (simp -implicitDefEqProofs (disch := omega) only [go_sem, e1, e36, e37, e38]; rfl)), by (first | (simp -implicitDefEqProofs (disch := omega) only [go_sem, e1, e36, e37, e38]; done) | (simp -implicitDefEqProofs (disch := omega) only [go_sem, e1, e36, e37, e38]; rfl)), by (first | (simp -implicitDefEqProofs (disch := omega) only [go_sem, e1, e36, e37, e38]; done) | (simp -implicitDefEqProofs (disch := omega) only [go_sem, e1, e36, e37, e38]; rfl)), rfl⟩ ?_
      simp -implicitDefEqProofs (disch := omega) only [go_sem, e1, e36, e37, e38]; decide
    | false =>
      rw [hhas] at hz
      by_cases hx : nm = []
      · have hfit : Gz.fits F 8 nm = true := by rw [fits_of, hx]; simp
        have hx' : decide (nm = []) = true := decide_eq_true hx
        simp -implicitDefEqProofs (disch := omega) only [go_sem, e1, e36, e37, e38, hz, hx']
        refine hQ' _ _ _ (fun _ h => h.2.2.2) ⟨2, by omega, fun _ => k4 (by omega), fun _ => hfit, by omega, by (first | (simp -implicitDefEqProofs (disch := omega) only [go_sem, e1, e36, e37, e38]; done) | (simp -implicitDefEqProofs (disch := omega) only [go_sem, e1, e36, e37, e38]; rfl)), by (first | (simp -implicitDefEqProofs (disch := omega) only [go_sem, e1, e36, e37, e38]; done) | (simp -implicitDefEqProofs (disch := omega) only [go_sem, e1, e36, e37, e38]; rfl)), by (first | (simp -implicitDefEqProofs (disch := omega) only [go_sem, e1, e36, e37, e38]; done) | (simp -implicitDefEqProofs (disch := omega) only [go_sem, e1, e36, e37, e38]; rfl)), by (first | (simp -implicitDefEqProofs (disch := omega) only [go_sem, e1, e36, e37, e38]; done) | (simp -implicitDefEqProofs (disch := omega) only [go_sem, e1, e36, e37, e38]; rfl)), rfl⟩ ?_
        simp -implicitDefEqProofs (disch := omega) only [go_sem, e1, e36, e37, e38]; decide
      · have hfit : Gz.fits F 8 nm = false := by rw [fits_of, hhas]; simp [hx]
        have hx' : decide (nm = []) = false := decide_eq_false hx
        simp -implicitDefEqProofs (disch := omega) only [go_sem, e1, e36, e37, e38, hz, hx']
        exact hQ _ _ fun w' hs => ⟨by simp [hfit], hs.anchor (by simp)⟩
  · have hz : decide (bits BinOp.and IntKind.i64 (F : Int) 16 = 0) = !Gz.has F 16 := and_zero hF 16 (by omega)
    simp -implicitDefEqProofs (disch := omega) only [go_sem, e1, e36, e37, e38, Int.cast_ofNat_Int, Nat.reduceMul, decide_true]
    refine RNew_intro fun g3 hg3 => ?_
    simp only [below_cons, below_nil, under_anchor, under_cells, and_true] at hg3
    have n1 : g ≠ g3 := by omega
    have n2 : g2 ≠ g3 := by omega
    have n3 : g3 ≠ g := by omega
    have n4 : g3 ≠ g2 := by omega
    cases hhas : Gz.has F 16 with
    | true =>
      have hfit : Gz.fits F 16 nt = true := by rw [fits_of, hhas]; rfl
      rw [hhas] at hz
      simp -implicitDefEqProofs (disch := omega) only [go_sem, e1, e36, e37, e38, hz]
      refine hQ' _ _ _ (fun _ h => h.2.2.2) ⟨3, by omega, fun _ => k4 (by omega), fun _ => k8 (by omega), fun _ => hfit, by (first | (simp -implicitDefEqProofs (disch := omega) only [go_sem, e1, e36, e37, e38]; done) | (simp -implicitDefEqProofs (disch := omega) only [go_sem, e1, e36, e37, e38]; rfl)), by (first | (simp -implicitDefEqProofs (disch := omega) only [go_sem, e1, e36, e37, e38]; done) | (simp -implicitDefEqProofs (disch := omega) only [go_sem, e1, e36, e37, e38]; rfl)), by (first | (simp -implicitDefEqProofs (disch := omega) only [go_sem, e1, e36, e37, e38]; done) | (simp -implicitDefEqProofs (disch := omega) only [go_sem, e1, e36, e37, e38]; rfl)), by (first | (simp -implicitDefEqProofs (disch := omega) only [go_sem, e1, e36, e37, e38]; done) | (simp -implicitDefEqProofs (disch := omega) only [go_sem, e1, e36, e37, e38]; rfl)), rfl⟩ ?_
      simp -implicitDefEqProofs (disch := omega) only [go_sem, e1, e36, e37, e38]; decide
    | false =>
      rw [hhas] at hz
      by_cases hx : nt = []
      · have hfit : Gz.fits F 16 nt = true := by rw [fits_of, hx]; simp
        have hx' : decide (nt = []) = true := decide_eq_true hx
        simp -implicitDefEqProofs (disch := omega) only [go_sem, e1, e36, e37, e38, hz, hx']
        refine hQ' _ _ _ (fun _ h => h.2.2.2) ⟨3, by omega, fun _ => k4 (by omega), fun _ => k8 (by omega), fun _ => hfit, by (first | (simp -implicitDefEqProofs (disch := omega) only [go_sem, e1, e36, e37, e38]; done) | (simp -implicitDefEqProofs (disch := omega) only [go_sem, e1, e36, e37, e38]; rfl)), by (first | (simp -implicitDefEqProofs (disch := omega) only [go_sem, e1, e36, e37, e38]; done) | (simp -implicitDefEqProofs (disch := omega) only [go_sem, e1, e36, e37, e38]; rfl)), by (first | (simp -implicitDefEqProofs (disch := omega) only [go_sem, e1, e36, e37, e38]; done) | (simp -implicitDefEqProofs (disch := omega) only [go_sem, e1, e36, e37, e38]; rfl)), by (first | (simp -implicitDefEqProofs (disch := omega) only [go_sem, e1, e36, e37, e38]; done) | (simp -implicitDefEqProofs (disch := omega) only [go_sem, e1, e36, e37, e38]; rfl)), rfl⟩ ?_
        simp -implicitDefEqProofs (disch := omega) only [go_sem, e1, e36, e37, e38]; decide
      · have hfit : Gz.fits F 16 nt = false := by rw [fits_of, hhas]; simp [hx]
        have hx' : decide (nt = []) = false := decide_eq_false hx
        simp -implicitDefEqProofs (disch := omega) only [go_sem, e1, e36, e37, e38, hz, hx']
        exact hQ _ _ fun w' hs => ⟨by simp [hfit], hs.anchor (by simp)⟩
  · have hall : (Gz.fits F 4 ex && (Gz.fits F 8 nm && Gz.fits F 16 nt)) = true := by rw [k4 (by omega), k8 (by omega), k16 (by omega)]; rfl
    rw [hall, Bool.true_and] at hQ
    by_cases h4 : ex.length ≤ 65535
    rotate_left
    · have h4' : decide ((ex.length : Int) ≤ 65535) = false := decide_eq_false (by omega)
      simp -implicitDefEqProofs (disch := omega) only [go_sem, e1, e36, e37, e38, Int.cast_ofNat_Int, decide_false, h4']
      exact hQ _ _ fun w' hs => ⟨by rw [decide_eq_false h4]; rfl, hs.anchor (by simp)⟩
    have h4' : decide ((ex.length : Int) ≤ 65535) = true := decide_eq_true (by omega)
    rw [decide_eq_true h4, Bool.true_and] at hQ
    simp -implicitDefEqProofs (disch := omega) only [go_sem, e1, e36, e37, e38, Int.cast_ofNat_Int, decide_false, h4']
    refine RCall_eq (gz_ends nm (by omega)) ?_
    cases hbn : Gz.bare nm with
    | false => simp -implicitDefEqProofs (disch := omega) only [go_sem]; exact hQ _ _ fun w' hs => ⟨by rw [hbn]; rfl, hs.anchor (by simp)⟩
    | true =>
      simp -implicitDefEqProofs (disch := omega) only [go_sem, e1, e36, e37, e38]
      refine RCall_eq (gz_ends nt (by omega)) ?_
      simp -implicitDefEqProofs (disch := omega) only [go_sem]
      exact hQ _ _ fun w' hs => ⟨by rw [hbn]; rfl, hs.anchor (by simp)⟩
end Go.Proofs.Ytlmbebnpnnkhmaa
