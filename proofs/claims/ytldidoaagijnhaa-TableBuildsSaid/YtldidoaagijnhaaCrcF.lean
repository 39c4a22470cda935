/- (lines of XCrc.lean, for seats without Byte and Entry) crc and its reference: what each function computes. -/
import Derived.Test.YtldidoaagijnhaaTypes
import Derived.Test.YtldidoaagijnhaaVals
import Derived.Test.YtldidoaagijnhaaCrcM
namespace Go.Proofs.Ytldidoaagijnhaa
set_option linter.unusedSimpArgs false
set_option linter.unusedVariables false
open H

theorem entk_succ_odd (k : Nat) (c : BitVec 32) (h : Crc.entk k c &&& 1#32 ≠ 0#32) : Crc.entk (k + 1) c = Crc.entk k c >>> 1 ^^^ 3988292384#32 := by
  simp [Crc.entk, Crc.ent1, h, Crc.poly]
theorem entk_succ_even (k : Nat) (c : BitVec 32) (h : Crc.entk k c &&& 1#32 = 0#32) : Crc.entk (k + 1) c = Crc.entk k c >>> 1 := by
  simp [Crc.entk, Crc.ent1, h]

set_option maxHeartbeats 400000 in
theorem crc_entry (c : BitVec 32) (w : World) : Does Try.prog 84 #[u32 c] w fun v w' => v = u32 (Crc.entry c) ∧ Ext [] w w' := by
  refine does (args := [u32 c]) Try.func84 rfl (by kernel_rfl) (by kernel_rfl) rfl ent_84 (Sat.start w []) ?_; intro QV hQ
  simp -implicitDefEqProofs (disch := omega) only [go_sem]
  refine RLoop_intro (fun f h => ∃ k : Nat, k ≤ 8 ∧ f 4 = .int .i64 (k : Int) ∧ f 0 = u32 (Crc.entk k c) ∧ h = [.anchor w []]) (fun f _ => (8 - ival (f 4)).toNat) ?_ ?_
  · exact ⟨0, by omega, by simp -implicitDefEqProofs (disch := omega) only [go_sem]; rfl, by simp -implicitDefEqProofs (disch := omega) only [go_sem]; rfl, rfl⟩
  rintro f h ⟨k, hk, e4, e0, rfl⟩ Q' hQ'
  simp -implicitDefEqProofs (disch := omega) only [go_sem, e4]
  refine RC_intro (fun hc => ?_) (fun hc => ?_)
  · simp only [decide_eq_true_eq] at hc
    simp -implicitDefEqProofs (disch := omega) only [go_sem, e0]
    have hend : ∀ f', f' 4 = .int .i64 ((k : Int) + 1) → f' 0 = u32 (Crc.entk (k + 1) c) → Q' f' [.anchor w []] := by
      intro f' a b
      refine hQ' _ _ _ (fun _ h => h) ⟨k + 1, by omega, a, b, rfl⟩ ?_
      rw [a, e4]; simp only [ival_int]; omega
    refine RC_intro (fun hb => ?_) (fun hb => ?_)
    · simp only [Bool.not_eq_true', decide_eq_false_iff_not] at hb
      simp -implicitDefEqProofs (disch := omega) only [go_sem, e4]
      refine hend _ (by simp -implicitDefEqProofs (disch := omega) only [go_sem]) (by simp -implicitDefEqProofs (disch := omega) only [go_sem]; rw [entk_succ_odd k c hb])
    · simp only [Bool.not_eq_false', decide_eq_true_eq] at hb
      simp -implicitDefEqProofs (disch := omega) only [go_sem, e4]
      refine hend _ (by simp -implicitDefEqProofs (disch := omega) only [go_sem]) (by simp -implicitDefEqProofs (disch := omega) only [go_sem]; rw [entk_succ_even k c hb])
  · simp only [decide_eq_false_iff_not] at hc
    have hk8 : k = 8 := by omega
    subst hk8
    simp -implicitDefEqProofs (disch := omega) only [go_sem, e0]
    exact hQ _ _ fun w' hs => ⟨rfl, hs.anchor (by simp)⟩

theorem ref_half (n : BitVec 32) : n / 2#32 = n >>> 1 := by
  apply BitVec.eq_of_toNat_eq
  simp [BitVec.toNat_udiv, BitVec.toNat_ushiftRight, Nat.shiftRight_eq_div_pow]
theorem ref_odd (n : BitVec 32) : (n % 2#32 = 1#32) ↔ (n &&& 1#32 ≠ 0#32) := by
  rw [← BitVec.toNat_inj, Ne, ← BitVec.toNat_inj]
  simp [BitVec.toNat_umod, BitVec.toNat_and, Nat.and_one_is_mod]

set_option maxHeartbeats 400000 in
theorem ref_entry (c : BitVec 32) (w : World) : Does Try.prog 83 #[u32 c] w fun v w' => v = u32 (Crc.entry c) ∧ Ext [] w w' := by
  refine does (args := [u32 c]) Try.func83 rfl (by kernel_rfl) (by kernel_rfl) rfl ent_83 (Sat.start w []) ?_; intro QV hQ
  simp -implicitDefEqProofs (disch := omega) only [go_sem]
  refine RLoop_intro (fun f h => ∃ k : Nat, k ≤ 8 ∧ f 3 = .int .i64 (k : Int) ∧ f 0 = u32 (Crc.entk k c) ∧ h = [.anchor w []]) (fun f _ => (8 - ival (f 3)).toNat) ?_ ?_
  · exact ⟨0, by omega, by simp -implicitDefEqProofs (disch := omega) only [go_sem]; rfl, by simp -implicitDefEqProofs (disch := omega) only [go_sem]; rfl, rfl⟩
  rintro f h ⟨k, hk, e4, e0, rfl⟩ Q' hQ'
  simp -implicitDefEqProofs (disch := omega) only [go_sem, e4]
  refine RC_intro (fun hc => ?_) (fun hc => ?_)
  · simp only [decide_eq_true_eq] at hc
    simp -implicitDefEqProofs (disch := omega) only [go_sem, e0]
    have hend : ∀ f', f' 3 = .int .i64 ((k : Int) + 1) → f' 0 = u32 (Crc.entk (k + 1) c) → Q' f' [.anchor w []] := by
      intro f' a b
      refine hQ' _ _ _ (fun _ h => h) ⟨k + 1, by omega, a, b, rfl⟩ ?_
      rw [a, e4]; simp only [ival_int]; omega
    refine RC_intro (fun hb => ?_) (fun hb => ?_)
    · have hb := (ref_odd _).1 (of_decide_eq_true hb)
      simp -implicitDefEqProofs (disch := omega) only [go_sem, e0, e4]
      refine hend _ (by simp -implicitDefEqProofs (disch := omega) only [go_sem]) (by simp -implicitDefEqProofs (disch := omega) only [go_sem, ref_half]; rw [entk_succ_odd k c hb])
    · have hb := (Decidable.not_iff_not.2 (ref_odd _)).1 (of_decide_eq_false hb)
      simp only [ne_eq, Decidable.not_not] at hb
      simp -implicitDefEqProofs (disch := omega) only [go_sem, e0, e4]
      refine hend _ (by simp -implicitDefEqProofs (disch := omega) only [go_sem]) (by simp -implicitDefEqProofs (disch := omega) only [go_sem, ref_half]; rw [entk_succ_even k c hb])
  · simp only [decide_eq_false_iff_not] at hc
    have hk8 : k = 8 := by omega
    subst hk8
    simp -implicitDefEqProofs (disch := omega) only [go_sem, e0]
    exact hQ _ _ fun w' hs => ⟨rfl, hs.anchor (by simp)⟩

/-- The table while it is made. -/
def tabF (k i : Nat) : Value := if i < k then u32 (Crc.entry (BitVec.ofNat 32 i)) else u32 0#32
def tabK (k : Nat) : List Value := vals 256 (tabF k)
theorem tabK_len (k : Nat) : (tabK k).length = 256 := vals_len _ _
theorem tabK_zero : Array.replicate 256 (u32 0#32) = (tabK 0).toArray := by
  rw [vals_replicate]; exact congrArg _ (vals_congr _ _ _ fun i _ => rfl)
theorem tabK_set (k : Nat) : (tabK k).set k (u32 (Crc.entry (BitVec.ofNat 32 k))) = tabK (k + 1) := by
  refine vals_set _ _ _ _ _ (by simp [tabF]) fun i hi => ?_
  have : i < k + 1 ↔ i < k := by omega
  simp [tabF, this]
theorem tabK_one (k : Nat) : ∀ v ∈ tabK k, v.oneCell' = true := by
  intro v hv
  obtain ⟨i, _, rfl⟩ := vals_mem _ _ _ hv
  unfold tabF
  split <;> rfl
def tab : List Value := tabK 256
theorem tab_get (i : Nat) (h : i < 256) : tab[i]? = some (u32 (Crc.entry (BitVec.ofNat 32 i))) := by
  unfold tab tabK
  rw [vals_get _ _ _ h, tabF, if_pos h]

theorem hsetN_tab (g : Nat) (t : TypeId) (h : List Res) : hsetN ⟨g, 0, none⟩ (tabK 256) 0 (.cells g t (tabK 0).toArray :: h) = some (.cells g t (tabK 256).toArray :: h) := by
  rw [hsetN_all (tabK 256) 0 _ h (tabK_one 256) (by rw [List.size_toArray, tabK_len, tabK_len])]
  rw [List.take_zero, List.nil_append]
theorem tab_all (k : Nat) : (tabK k).toArray.extract 0 256 = (tabK k).toArray := by
  apply Array.ext'
  rw [Array.toList_extract, List.extract_eq_take_drop, List.drop_zero, Nat.sub_zero, List.take_of_length_le (by rw [tabK_len]; exact Nat.le_refl _)]
attribute [irreducible] tabK

set_option maxRecDepth 20000 in
set_option maxHeartbeats 400000 in
theorem crc_table (w : World) : Does Try.prog 81 #[] w fun v w' => v = .agg tab.toArray ∧ Ext [] w w' := by
  refine does (args := []) Try.func81 rfl (by kernel_rfl) (by kernel_rfl) rfl ent_81 (Sat.start w []) ?_; intro QV hQ
  simp -implicitDefEqProofs (disch := omega) only [go_sem]
  refine RNew_intro fun g1 hg1 => ?_
  simp only [below_cons, below_nil, under_anchor, and_true] at hg1
  simp -implicitDefEqProofs (disch := omega) only [go_sem]
  refine RNew_intro fun g2 hg2 => ?_
  simp only [below_cons, below_nil, under_cells, under_anchor, and_true] at hg2
  obtain ⟨hg2, hg2'⟩ := hg2
  simp -implicitDefEqProofs (disch := omega) only [go_sem]
  refine RLoop_intro (fun f h => ∃ k : Nat, k ≤ 256 ∧ f 4 = .int .i64 (k : Int) ∧ f 0 = .pointer (some ⟨g1, 0, none⟩) ∧ f 1 = .func (.func 84) #[] #[] ∧ f 2 = .pointer (some ⟨g2, 0, none⟩) ∧
    h = [.cells g2 100 (tabK k).toArray, .cells g1 100 (tabK 0).toArray, .anchor w []]) (fun f _ => (256 - ival (f 4)).toNat) ?_ ?_
  · exact ⟨0, by omega, by simp -implicitDefEqProofs (disch := omega) only [go_sem]; rfl, by simp -implicitDefEqProofs (disch := omega) only [go_sem], by simp -implicitDefEqProofs (disch := omega) only [go_sem], by simp -implicitDefEqProofs (disch := omega) only [go_sem], by simp -implicitDefEqProofs (disch := omega) only [go_sem, tabK_zero]⟩
  rintro f h ⟨k, hk, e4, e0, e1, e2, rfl⟩ Q' hQ'
  simp -implicitDefEqProofs (disch := omega) only [go_sem, e4]
  refine RC_intro (fun hc => ?_) (fun hc => ?_)
  · simp only [decide_eq_true_eq] at hc
    simp -implicitDefEqProofs (disch := omega) only [go_sem, e1, e4]
    refine RCall_eq (crc_entry _) ?_
    simp -implicitDefEqProofs (disch := omega) only [go_sem, e2, tabK_len, tabK_set, e4]
    refine hQ' _ _ _ (fun _ h => h) ⟨k + 1, by omega, ?_, ?_, ?_, ?_, rfl⟩ ?_
    · simp -implicitDefEqProofs (disch := omega) only [go_sem]; rfl
    · simp -implicitDefEqProofs (disch := omega) only [go_sem, e0]
    · simp -implicitDefEqProofs (disch := omega) only [go_sem, e1]
    · simp -implicitDefEqProofs (disch := omega) only [go_sem, e2]
    · simp -implicitDefEqProofs (disch := omega) only [go_sem, e4]; omega
  · simp only [decide_eq_false_iff_not] at hc
    have hk8 : k = 256 := by omega
    subst hk8
    simp -implicitDefEqProofs (disch := omega) only [go_sem, e0, e1, e2, tabK_len, tab_all]
    simp -implicitDefEqProofs (disch := omega) only [go_sem, e0, hsetN_ne, hsetN_tab, tabK_len, tab_all]
    exact hQ _ _ fun w' hs => ⟨rfl, hs.anchor (by simp)⟩

/-- The table behind a pointer. -/
def TabAt (w : World) (g : Nat) : Prop := ∀ i, i < 256 → w.cell? ⟨g, i, none⟩ = some (u32 (Crc.entry (BitVec.ofNat 32 i)))
theorem TabAt.lt {w : World} {g : Nat} (h : TabAt w g) : g < w.heap.size := World.block_lt_of_cell? _ _ (h 0 (by omega))

set_option maxRecDepth 20000 in
set_option maxHeartbeats 400000 in
theorem crc_step (g : Nat) (c : BitVec 32) (b : UInt8) (w : World) (ht : TabAt w g) : Does Try.prog 82 #[.pointer (some ⟨g, 0, none⟩), u32 c, byte b] w fun v w' => v = u32 (Crc.step c b) ∧ Ext [] w w' := by
  have hlt := ht.lt
  have hb : (({ toBitVec := BitVec.setWidth 8 c } : UInt8) ^^^ b).toNat < 256 := UInt8.toNat_lt _
  have hg := ht _ hb
  refine does (args := [.pointer (some ⟨g, 0, none⟩), u32 c, byte b]) Try.func82 rfl (by kernel_rfl) (by kernel_rfl) rfl ent_82 (Sat.start w []) ?_; intro QV hQ
  simp -implicitDefEqProofs (disch := omega) only [go_sem, hg]
  exact hQ _ _ fun w' hs => ⟨rfl, hs.anchor (by simp)⟩

theorem tab_at (w : World) (g : Nat) (t : TypeId) (h : List Res) (hs : Sat w (.cells g t (tabK 256).toArray :: h)) : TabAt w g := by
  intro i hi
  refine look_sound hs ?_
  rw [look_same, List.getElem?_toArray]
  exact tab_get i hi

set_option maxRecDepth 20000 in
set_option maxHeartbeats 400000 in
theorem crc_on (c : BitVec 32) (s : List UInt8) (hl : s.length ≤ 9223372036854775807) (w : World) : Does Try.prog 78 #[u32 c, str s] w fun v w' => v = u32 (Crc.on c s) ∧ Ext [] w w' := by
  refine does (args := [u32 c, str s]) Try.func78 rfl (by kernel_rfl) (by kernel_rfl) rfl ent_78 (Sat.start w []) ?_; intro QV hQ
  simp -implicitDefEqProofs (disch := omega) only [go_sem]
  refine RCall_eq crc_table ?_
  simp -implicitDefEqProofs (disch := omega) only [go_sem]
  refine RNew_intro fun g hg => ?_
  simp only [below_cons, below_nil, under_anchor, and_true] at hg
  simp -implicitDefEqProofs (disch := omega) only [go_sem, tabK_zero, tab, tabK_len, hsetN_tab]
  refine RLoop_intro (fun f h => ∃ k : Nat, k ≤ s.length ∧ f 12 = .int .i64 (k : Int) ∧ f 11 = .int .i64 (s.length : Int) ∧ f 1 = str s ∧ f 5 = .pointer (some ⟨g, 0, none⟩) ∧ f 0 = u32 (Crc.run (~~~c) (s.take k)) ∧
    h = [.cells g 100 (tabK 256).toArray, .anchor w []]) (fun f _ => (s.length - ival (f 12)).toNat) ?_ ?_
  · exact ⟨0, by omega, by simp -implicitDefEqProofs (disch := omega) only [go_sem]; rfl, by simp -implicitDefEqProofs (disch := omega) only [go_sem], by simp -implicitDefEqProofs (disch := omega) only [go_sem], by simp -implicitDefEqProofs (disch := omega) only [go_sem], by simp -implicitDefEqProofs (disch := omega) only [go_sem]; rfl, rfl⟩
  rintro f h ⟨k, hk, e12, e11, e1, e5, e0, rfl⟩ Q' hQ'
  simp -implicitDefEqProofs (disch := omega) only [go_sem, e12, e11]
  refine RC_intro (fun hc => ?_) (fun hc => ?_)
  · simp only [decide_eq_true_eq] at hc
    simp -implicitDefEqProofs (disch := omega) only [go_sem, e0, e1, e5, e12]
    refine RCall_of (φ := fun v => v = u32 (Crc.step (Crc.run (~~~c) (s.take k)) (s.getD k 0))) (fun w1 hs => crc_step g _ _ w1 (tab_at _ _ _ _ hs)) fun v hv => ?_
    subst hv
    simp -implicitDefEqProofs (disch := omega) only [go_sem, e12]
    refine hQ' _ _ _ (fun _ h => h) ⟨k + 1, by omega, ?_, ?_, ?_, ?_, ?_, rfl⟩ ?_
    · simp -implicitDefEqProofs (disch := omega) only [go_sem]; rfl
    · simp -implicitDefEqProofs (disch := omega) only [go_sem, e11]
    · simp -implicitDefEqProofs (disch := omega) only [go_sem, e1]
    · simp -implicitDefEqProofs (disch := omega) only [go_sem, e5]
    · simp -implicitDefEqProofs (disch := omega) only [go_sem]; rw [Crc.run_take _ _ _ (by omega)]
    · simp -implicitDefEqProofs (disch := omega) only [go_sem, e12]; omega
  · simp only [decide_eq_false_iff_not] at hc
    have hks : k = s.length := by omega
    subst hks
    simp -implicitDefEqProofs (disch := omega) only [go_sem, e0]
    rw [List.take_length]
    exact hQ _ _ fun w' hs => ⟨rfl, hs.anchor (by simp)⟩

set_option maxHeartbeats 400000 in
theorem crc_of (s : List UInt8) (hl : s.length ≤ 9223372036854775807) (w : World) : Does Try.prog 62 #[str s] w fun v w' => v = u32 (Crc.of s) ∧ Ext [] w w' := by
  refine does (args := [str s]) Try.func62 rfl (by kernel_rfl) (by kernel_rfl) rfl ent_62 (Sat.start w []) ?_; intro QV hQ
  simp -implicitDefEqProofs (disch := omega) only [go_sem]
  refine RCall_eq (crc_on 0#32 s hl) ?_
  simp -implicitDefEqProofs (disch := omega) only [go_sem]
  exact hQ _ _ fun w' hs => ⟨rfl, hs.anchor (by simp)⟩

-- the reference
theorem ref_low (c : BitVec 32) (b : UInt8) : c % 256#32 ^^^ b.toBitVec.setWidth 32 = BitVec.ofNat 32 (Crc.low c b).toNat := by
  apply BitVec.eq_of_toNat_eq
  have h1 : (Crc.low c b).toNat = (c.setWidth 8 ^^^ b.toBitVec).toNat := rfl
  have h2 : (Crc.low c b).toNat < 256 := UInt8.toNat_lt _
  rw [BitVec.toNat_ofNat, Nat.mod_eq_of_lt (by omega), h1, BitVec.toNat_xor, BitVec.toNat_xor, BitVec.toNat_setWidth, BitVec.toNat_setWidth, BitVec.toNat_umod]
  have h3 : b.toBitVec.toNat < 256 := UInt8.toNat_lt b
  have h4 : (256#32).toNat = 256 := rfl
  rw [h4, Nat.mod_eq_of_lt (show b.toBitVec.toNat < 2 ^ 32 by omega)]
theorem ref_hi (c : BitVec 32) : c / 256#32 = c >>> 8 := by
  apply BitVec.eq_of_toNat_eq
  simp [BitVec.toNat_udiv, BitVec.toNat_ushiftRight, Nat.shiftRight_eq_div_pow]

set_option maxHeartbeats 400000 in
theorem ref_byte (c : BitVec 32) (b : UInt8) (w : World) : Does Try.prog 80 #[u32 c, byte b] w fun v w' => v = u32 (Crc.step c b) ∧ Ext [] w w' := by
  refine does (args := [u32 c, byte b]) Try.func80 rfl (by kernel_rfl) (by kernel_rfl) rfl ent_80 (Sat.start w []) ?_; intro QV hQ
  simp -implicitDefEqProofs (disch := omega) only [go_sem, ref_low]
  refine RCall_eq (ref_entry _) ?_
  simp -implicitDefEqProofs (disch := omega) only [go_sem, ref_hi]
  exact hQ _ _ fun w' hs => ⟨rfl, hs.anchor (by simp)⟩

set_option maxHeartbeats 400000 in
theorem ref_on (c : BitVec 32) (s : List UInt8) (hl : s.length ≤ 9223372036854775806) (w : World) : Does Try.prog 72 #[u32 c, str s] w fun v w' => v = u32 (Crc.on c s) ∧ Ext [] w w' := by
  refine does (args := [u32 c, str s]) Try.func72 rfl (by kernel_rfl) (by kernel_rfl) rfl ent_72 (Sat.start w []) ?_; intro QV hQ
  simp -implicitDefEqProofs (disch := omega) only [go_sem]
  refine RLoop_intro (fun f h => ∃ k : Nat, k ≤ s.length ∧ f 5 = .int .i64 (k : Int) ∧ f 1 = str s ∧ f 0 = u32 (Crc.run (~~~c) (s.take k)) ∧
    h = [.anchor w []]) (fun f _ => (s.length - ival (f 5)).toNat) ?_ ?_
  · exact ⟨0, by omega, by simp -implicitDefEqProofs (disch := omega) only [go_sem]; rfl, by simp -implicitDefEqProofs (disch := omega) only [go_sem], by simp -implicitDefEqProofs (disch := omega) only [go_sem]; rfl, rfl⟩
  rintro f h ⟨k, hk, e12, e1, e0, rfl⟩ Q' hQ'
  simp -implicitDefEqProofs (disch := omega) only [go_sem, e12, e1]
  refine RC_intro (fun hc => ?_) (fun hc => ?_)
  · simp only [decide_eq_true_eq] at hc
    simp -implicitDefEqProofs (disch := omega) only [go_sem, e0, e1, e12]
    refine RCall_eq (ref_byte _ _) ?_
    simp -implicitDefEqProofs (disch := omega) only [go_sem, e12]
    refine hQ' _ _ _ (fun _ h => h) ⟨k + 1, by omega, ?_, ?_, ?_, rfl⟩ ?_
    · simp -implicitDefEqProofs (disch := omega) only [go_sem]; rfl
    · simp -implicitDefEqProofs (disch := omega) only [go_sem, e1]
    · simp -implicitDefEqProofs (disch := omega) only [go_sem]; rw [Crc.run_take _ _ _ (by omega)]
    · simp -implicitDefEqProofs (disch := omega) only [go_sem, e12]; omega
  · simp only [decide_eq_false_iff_not] at hc
    have hks : k = s.length := by omega
    subst hks
    simp -implicitDefEqProofs (disch := omega) only [go_sem, e0]
    rw [List.take_length]
    exact hQ _ _ fun w' hs => ⟨rfl, hs.anchor (by simp)⟩

set_option maxHeartbeats 400000 in
theorem ref_of (s : List UInt8) (hl : s.length ≤ 9223372036854775806) (w : World) : Does Try.prog 57 #[str s] w fun v w' => v = u32 (Crc.of s) ∧ Ext [] w w' := by
  refine does (args := [str s]) Try.func57 rfl (by kernel_rfl) (by kernel_rfl) rfl ent_57 (Sat.start w []) ?_; intro QV hQ
  simp -implicitDefEqProofs (disch := omega) only [go_sem]
  refine RCall_eq (ref_on 0#32 s hl) ?_
  simp -implicitDefEqProofs (disch := omega) only [go_sem]
  exact hQ _ _ fun w' hs => ⟨rfl, hs.anchor (by simp)⟩

end Go.Proofs.Ytldidoaagijnhaa
