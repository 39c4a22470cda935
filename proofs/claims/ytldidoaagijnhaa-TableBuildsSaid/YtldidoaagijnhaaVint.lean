/- vint and its reference: the walks. -/
import Derived.Test.YtldidoaagijnhaaTypes
import Derived.Test.YtldidoaagijnhaaGrow
import Derived.Test.YtldidoaagijnhaaVintM
namespace Go.Proofs.Ytldidoaagijnhaa
set_option linter.unusedSimpArgs false
set_option linter.unusedVariables false
open H
theorem bytes_sl : slT Try.prog 59 5 1 1 := slT_of (by kernel_rfl)
theorem bytes_t : bytesT Try.prog 59 5 := ⟨Try.underlying59, Try.underlying5⟩

theorem shr7 (m : Nat) : (m : Int).fdiv (2 ^ min 7 64) = ((m / 128 : Nat) : Int) := by
  have : (2 : Int) ^ min 7 64 = 128 := rfl
  rw [this, Int.fdiv_eq_ediv_of_nonneg _ (by decide)]; omega
theorem b8_more (m : Nat) : b8 (m : Int) ||| 128 = UInt8.ofNat (m % 128 + 128) := by
  have hm : m % 256 < 256 := Nat.mod_lt _ (by decide)
  have e : ((m : Int) % 256).toNat = m % 256 := by omega
  have key : ∀ k : Nat, k < 256 → UInt8.ofNat k ||| 128 = UInt8.ofNat (k % 128 + 128) := by decide +kernel
  unfold b8
  rw [e, key _ hm, show m % 256 % 128 = m % 128 by omega]
theorem b8_small (m : Nat) : b8 (m : Int) = UInt8.ofNat m := by
  have e : ((m : Int) % 256).toNat = m % 256 := by omega
  unfold b8
  rw [e]
  apply UInt8.toNat_inj.1
  rw [UInt8.toNat_ofNat', UInt8.toNat_ofNat']
  omega

set_option maxHeartbeats 400000 in
theorem vint_put (n : Int) (hn : -9223372036854775808 ≤ n ∧ n ≤ 9223372036854775807) (w : World) : Does Try.prog 70 #[.int .i64 n] w fun v w' => v = .tuple #[str (Vint.put n).1, .int .i64 (Vint.put n).2] ∧ Ext [] w w' := by
  refine does (args := [.int .i64 n]) Try.func70 rfl (by kernel_rfl) (by kernel_rfl) rfl ent_70 (Sat.start w []) ?_; intro QV hQ
  simp -implicitDefEqProofs (disch := omega) only [go_sem]
  refine RC_intro (fun hc => ?_) (fun hc => ?_)
  · simp only [decide_eq_true_eq] at hc
    simp -implicitDefEqProofs (disch := omega) only [go_sem]
    exact hQ _ _ fun w' hs => ⟨by simp only [Vint.put, if_pos hc], hs.anchor (by simp)⟩
  · simp only [decide_eq_false_iff_not] at hc
    obtain ⟨m0, rfl⟩ := Int.eq_ofNat_of_zero_le (show 0 ≤ n by omega)
    have hp : Vint.put (m0 : Int) = (Vint.putL m0, 0) := by unfold Vint.put; rw [if_neg hc]; simp
    rw [hp] at hQ
    have hlen := Vint.putL_len9 m0 (by omega)
    simp -implicitDefEqProofs (disch := omega) only [go_sem]
    refine RLoop_from (fun f h => ∃ (m : Nat) (acc : List UInt8) (a : Option Addr) (c : Nat), (m : Int) ≤ 9223372036854775807 ∧ acc ++ Vint.putL m = Vint.putL m0 ∧ f 0 = .int .i64 (m : Int) ∧ f 3 = .int .i64 0 ∧ f 4 = .slice a acc.length c ∧ h = [Own 5 1 (.slice a acc.length c) acc.length (acc.map byte), .anchor w []]) (fun f _ => (ival (f 0)).toNat) ?_ ?_
    · exact fun w1 hs => ⟨_, hs.own_nil 5 1, m0, [], none, 0, by omega, rfl, by simp -implicitDefEqProofs (disch := omega) only [go_sem], by simp -implicitDefEqProofs (disch := omega) only [go_sem], by simp -implicitDefEqProofs (disch := omega) only [go_sem], rfl⟩
    rintro f h ⟨m, acc, a, c, hm, hacc, e0, e3, e4, rfl⟩ Q' hQ'
    have hl2 : acc.length + (Vint.putL m).length ≤ 9 := by rw [← List.length_append, hacc]; exact hlen
    simp -implicitDefEqProofs (disch := omega) only [go_sem, e0]
    refine RC_intro (fun hc => ?_) (fun hc => ?_)
    · simp only [decide_eq_true_eq] at hc
      simp -implicitDefEqProofs (disch := omega) only [go_sem, e0, e4]
      refine RRun_build1 bytes_sl rfl fun g hg => ?_
      simp -implicitDefEqProofs (disch := omega) only [go_sem]
      refine RRun_append_byte (e' := 0) (x := b8 (m : Int) ||| 128) bytes_sl (fun _ hs => hs.2.2.2) (by rw [look_same]; rfl) (by omega) fun a' c' hc' => ?_
      simp -implicitDefEqProofs (disch := omega) only [go_sem, e0, shr7]
      refine hQ' _ _ fun w1 hs => ⟨_, hs, ⟨m / 128, acc ++ [b8 (m : Int) ||| 128], a', c', ?_, ?_, ?_, ?_, ?_, ?_⟩, ?_⟩
      · omega
      · rw [b8_more, List.append_assoc, List.singleton_append, ← Vint.putL_big m (by omega)]; exact hacc
      · simp -implicitDefEqProofs (disch := omega) only [go_sem]
      · simp -implicitDefEqProofs (disch := omega) only [go_sem, e3]
      · simp -implicitDefEqProofs (disch := omega) only [go_sem]; rw [List.length_append]; rfl
      · rw [List.length_append]; rfl
      · simp -implicitDefEqProofs (disch := omega) only [go_sem, e0]; omega
    · simp only [decide_eq_false_iff_not] at hc
      simp -implicitDefEqProofs (disch := omega) only [go_sem, e0, e4]
      refine RRun_build1 bytes_sl rfl fun g hg => ?_
      simp -implicitDefEqProofs (disch := omega) only [go_sem]
      refine RRun_append_byte (e' := 0) (x := b8 (m : Int)) bytes_sl (fun _ hs => hs.2.2.2) (by rw [look_same]; rfl) (by omega) fun a' c' hc' => ?_
      simp -implicitDefEqProofs (disch := omega) only [go_sem]
      refine RRun_str_own bytes_t Try.underlying9 ?_
      simp -implicitDefEqProofs (disch := omega) only [go_sem]
      rw [b8_small, ← Vint.putL_small m (by omega), hacc]
      exact hQ _ _ fun w' hs => ⟨rfl, hs.anchor (by simp)⟩

theorem quo128 (m : Nat) : (m : Int).tdiv 128 = ((m / 128 : Nat) : Int) := by rw [Int.tdiv_eq_ediv_of_nonneg (by omega)]; omega
theorem rem128 (m : Nat) : (m : Int).tmod 128 = ((m % 128 : Nat) : Int) := by rw [Int.tmod_eq_emod_of_nonneg (by omega)]; omega
theorem b8_nat (m : Nat) (k : Nat) : b8 ((m : Int) + (k : Int)) = UInt8.ofNat (m + k) := by rw [← b8_small]; simp
set_option maxHeartbeats 400000 in
theorem ref_put (n : Int) (hn : -9223372036854775808 ≤ n ∧ n ≤ 9223372036854775807) (w : World) : Does Try.prog 71 #[.int .i64 n] w fun v w' => v = .tuple #[str (Vint.put n).1, .int .i64 (Vint.put n).2] ∧ Ext [] w w' := by
  refine does (args := [.int .i64 n]) Try.func71 rfl (by kernel_rfl) (by kernel_rfl) rfl ent_71 (Sat.start w []) ?_; intro QV hQ
  simp -implicitDefEqProofs (disch := omega) only [go_sem]
  refine RC_intro (fun hc => ?_) (fun hc => ?_)
  · simp only [decide_eq_true_eq] at hc
    simp -implicitDefEqProofs (disch := omega) only [go_sem]
    exact hQ _ _ fun w' hs => ⟨by simp only [Vint.put, if_pos hc], hs.anchor (by simp)⟩
  · simp only [decide_eq_false_iff_not] at hc
    obtain ⟨m0, rfl⟩ := Int.eq_ofNat_of_zero_le (show 0 ≤ n by omega)
    have hp : Vint.put (m0 : Int) = (Vint.putL m0, 0) := by unfold Vint.put; rw [if_neg hc]; simp
    rw [hp] at hQ
    have hlen := Vint.putL_len9 m0 (by omega)
    simp -implicitDefEqProofs (disch := omega) only [go_sem]
    refine RLoop_from (fun f h => ∃ (m : Nat) (acc : List UInt8) (a : Option Addr) (c : Nat), (m : Int) ≤ 9223372036854775807 ∧ acc ++ Vint.putL m = Vint.putL m0 ∧ f 0 = .int .i64 (m : Int) ∧ f 3 = .int .i64 0 ∧ f 4 = .slice a acc.length c ∧ h = [Own 5 1 (.slice a acc.length c) acc.length (acc.map byte), .anchor w []]) (fun f _ => (ival (f 0)).toNat) ?_ ?_
    · exact fun w1 hs => ⟨_, hs.own_nil 5 1, m0, [], none, 0, by omega, rfl, by simp -implicitDefEqProofs (disch := omega) only [go_sem], by simp -implicitDefEqProofs (disch := omega) only [go_sem], by simp -implicitDefEqProofs (disch := omega) only [go_sem], rfl⟩
    rintro f h ⟨m, acc, a, c, hm, hacc, e0, e3, e4, rfl⟩ Q' hQ'
    have hl2 : acc.length + (Vint.putL m).length ≤ 9 := by rw [← List.length_append, hacc]; exact hlen
    simp -implicitDefEqProofs (disch := omega) only [go_sem, e0]
    refine RC_intro (fun hc => ?_) (fun hc => ?_)
    · simp only [decide_eq_true_eq] at hc
      obtain ⟨r, hr⟩ : ∃ r, r = m % 128 := ⟨_, rfl⟩
      obtain ⟨q, hq⟩ : ∃ q, q = m / 128 := ⟨_, rfl⟩
      have hrem := rem128 m
      have hquo := quo128 m
      rw [← hr] at hrem
      rw [← hq] at hquo
      have hr1 : r < 128 := by omega
      have hq1 : q < m := by omega
      have hb : b8 ((r : Int) + 128) = UInt8.ofNat (m % 128 + 128) := by rw [← hr]; exact b8_nat r 128
      simp -implicitDefEqProofs (disch := omega) only [go_sem, e0, e4, hrem, hquo]
      refine RRun_build1 bytes_sl rfl fun g hg => ?_
      simp -implicitDefEqProofs (disch := omega) only [go_sem]
      refine RRun_append_byte (e' := 0) (x := b8 ((r : Int) + 128)) bytes_sl (fun _ hs => hs.2.2.2) (by rw [look_same]; rfl) (by omega) fun a' c' hc' => ?_
      simp -implicitDefEqProofs (disch := omega) only [go_sem, e0, hquo]
      refine hQ' _ _ fun w1 hs => ⟨_, hs, ⟨q, acc ++ [b8 ((r : Int) + 128)], a', c', ?_, ?_, ?_, ?_, ?_, ?_⟩, ?_⟩
      · omega
      · rw [hb, List.append_assoc, List.singleton_append, hq, ← Vint.putL_big m (by omega)]; exact hacc
      · simp -implicitDefEqProofs (disch := omega) only [go_sem]
      · simp -implicitDefEqProofs (disch := omega) only [go_sem, e3]
      · simp -implicitDefEqProofs (disch := omega) only [go_sem]; rw [List.length_append]; rfl
      · rw [List.length_append]; rfl
      · simp -implicitDefEqProofs (disch := omega) only [go_sem, e0]; omega
    · simp only [decide_eq_false_iff_not] at hc
      simp -implicitDefEqProofs (disch := omega) only [go_sem, e0, e4]
      refine RRun_build1 bytes_sl rfl fun g hg => ?_
      simp -implicitDefEqProofs (disch := omega) only [go_sem]
      refine RRun_append_byte (e' := 0) (x := b8 (m : Int)) bytes_sl (fun _ hs => hs.2.2.2) (by rw [look_same]; rfl) (by omega) fun a' c' hc' => ?_
      simp -implicitDefEqProofs (disch := omega) only [go_sem]
      refine RRun_str_own bytes_t Try.underlying9 ?_
      simp -implicitDefEqProofs (disch := omega) only [go_sem]
      rw [b8_small, ← Vint.putL_small m (by omega), hacc]
      exact hQ _ _ fun w' hs => ⟨rfl, hs.anchor (by simp)⟩

set_option maxHeartbeats 400000 in
theorem vint_wide (n : Int) (w : World) : Does Try.prog 63 #[.int .i64 n] w fun v w' => v = .bool (decide (n = 1 ∨ n = 2 ∨ n = 4 ∨ n = 8)) ∧ Ext [] w w' := by
  refine does (args := [.int .i64 n]) Try.func63 rfl (by kernel_rfl) (by kernel_rfl) rfl ent_63 (Sat.start w []) ?_; intro QV hQ
  by_cases h1 : n = 1
  · subst h1
    simp -implicitDefEqProofs (disch := omega) only [go_sem]
    exact hQ _ _ fun w' hs => ⟨rfl, hs.anchor (by simp)⟩
  by_cases h2 : n = 2
  · subst h2
    simp -implicitDefEqProofs (disch := omega) only [go_sem]
    exact hQ _ _ fun w' hs => ⟨rfl, hs.anchor (by simp)⟩
  by_cases h4 : n = 4
  · subst h4
    simp -implicitDefEqProofs (disch := omega) only [go_sem]
    exact hQ _ _ fun w' hs => ⟨rfl, hs.anchor (by simp)⟩
  by_cases h8 : n = 8
  · subst h8
    simp -implicitDefEqProofs (disch := omega) only [go_sem]
    exact hQ _ _ fun w' hs => ⟨rfl, hs.anchor (by simp)⟩
  have hn : ¬ (n = 1 ∨ n = 2 ∨ n = 4 ∨ n = 8) := by omega
  simp -implicitDefEqProofs (disch := omega) only [go_sem, h1, h2, h4, h8, decide_false]
  exact hQ _ _ fun w' hs => ⟨by rw [decide_eq_false hn], hs.anchor (by simp)⟩
set_option maxHeartbeats 400000 in
theorem ref_wide (n : Int) (w : World) : Does Try.prog 66 #[.int .i64 n] w fun v w' => v = .bool (decide (n = 1 ∨ n = 2 ∨ n = 4 ∨ n = 8)) ∧ Ext [] w w' := by
  refine does (args := [.int .i64 n]) Try.func66 rfl (by kernel_rfl) (by kernel_rfl) rfl ent_66 (Sat.start w []) ?_; intro QV hQ
  by_cases h1 : n = 1
  · subst h1
    simp -implicitDefEqProofs (disch := omega) only [go_sem]
    exact hQ _ _ fun w' hs => ⟨rfl, hs.anchor (by simp)⟩
  by_cases h2 : n = 2
  · subst h2
    simp -implicitDefEqProofs (disch := omega) only [go_sem]
    exact hQ _ _ fun w' hs => ⟨rfl, hs.anchor (by simp)⟩
  by_cases h4 : n = 4
  · subst h4
    simp -implicitDefEqProofs (disch := omega) only [go_sem]
    exact hQ _ _ fun w' hs => ⟨rfl, hs.anchor (by simp)⟩
  by_cases h8 : n = 8
  · subst h8
    simp -implicitDefEqProofs (disch := omega) only [go_sem]
    exact hQ _ _ fun w' hs => ⟨rfl, hs.anchor (by simp)⟩
  have hn : ¬ (n = 1 ∨ n = 2 ∨ n = 4 ∨ n = 8) := by omega
  simp -implicitDefEqProofs (disch := omega) only [go_sem, h1, h2, h4, h8, decide_false]
  exact hQ _ _ fun w' hs => ⟨by rw [decide_eq_false hn], hs.anchor (by simp)⟩

set_option maxHeartbeats 400000 in
theorem ref_fixed (n wd : Int) (hn : -9223372036854775808 ≤ n ∧ n ≤ 9223372036854775807) (w : World) : Does Try.prog 56 #[.int .i64 n, .int .i64 wd] w fun v w' => v = .tuple #[str (Vint.fixed n wd).1, .int .i64 (Vint.fixed n wd).2] ∧ Ext [] w w' := by
  refine does (args := [.int .i64 n, .int .i64 wd]) Try.func56 rfl (by kernel_rfl) (by kernel_rfl) rfl ent_56 (Sat.start w []) ?_; intro QV hQ
  simp -implicitDefEqProofs (disch := omega) only [go_sem]
  refine RCall_eq (ref_wide _) ?_
  by_cases hw : (wd = 1 ∨ wd = 2 ∨ wd = 4 ∨ wd = 8)
  rotate_left
  · simp -implicitDefEqProofs (disch := omega) only [go_sem, decide_eq_false hw]
    exact hQ _ _ fun w' hs => ⟨by simp only [Vint.fixed, Vint.wide, hw, not_false_eq_true, true_or, if_true], hs.anchor (by simp)⟩
  by_cases hc : n < 0
  · simp -implicitDefEqProofs (disch := omega) only [go_sem, decide_eq_true hw, decide_eq_true hc]
    exact hQ _ _ fun w' hs => ⟨by simp only [Vint.fixed, Vint.wide, hc, or_true, if_true], hs.anchor (by simp)⟩
  obtain ⟨m0, rfl⟩ := Int.eq_ofNat_of_zero_le (show 0 ≤ n by omega)
  obtain ⟨d, rfl⟩ := Int.eq_ofNat_of_zero_le (show 0 ≤ wd by omega)
  have hf : Vint.fixed (m0 : Int) (d : Int) = if m0 / 256 ^ d = 0 then (Vint.fixL d m0, 0) else ([], 1) := by
    have : ¬ (¬ Vint.wide (d : Int) ∨ (m0 : Int) < 0) := by unfold Vint.wide; omega
    unfold Vint.fixed; rw [if_neg this]; rfl
  have hd8 : d ≤ 8 := by omega
  simp -implicitDefEqProofs (disch := omega) only [go_sem, decide_eq_true hw, decide_eq_false hc]
  refine RLoop_from (fun f h => ∃ (m i : Nat) (acc : List UInt8) (a : Option Addr) (c : Nat), (m : Int) ≤ 9223372036854775807 ∧ i ≤ d ∧ acc.length = i ∧ acc ++ Vint.fixL (d - i) m = Vint.fixL d m0 ∧ m / 256 ^ (d - i) = m0 / 256 ^ d ∧
    f 0 = .int .i64 (m : Int) ∧ f 1 = .int .i64 (d : Int) ∧ f 4 = str [] ∧ f 5 = .int .i64 0 ∧ f 7 = .int .i64 (i : Int) ∧ f 6 = .slice a i c ∧ h = [Own 5 1 (.slice a i c) i (acc.map byte), .anchor w []]) (fun f _ => (d - ival (f 7)).toNat) ?_ ?_
  · exact fun w1 hs => ⟨_, hs.own_nil 5 1, m0, 0, [], none, 0, by omega, by omega, rfl, rfl, rfl, by simp -implicitDefEqProofs (disch := omega) only [go_sem], by simp -implicitDefEqProofs (disch := omega) only [go_sem], by simp -implicitDefEqProofs (disch := omega) only [go_sem], by simp -implicitDefEqProofs (disch := omega) only [go_sem], by simp -implicitDefEqProofs (disch := omega) only [go_sem]; rfl, by simp -implicitDefEqProofs (disch := omega) only [go_sem], rfl⟩
  rintro f h ⟨m, i, acc, a, c, hm, hi, hal, hacc, hmd, e0, e1, e4, e5, e7, e6, rfl⟩ Q' hQ'
  simp -implicitDefEqProofs (disch := omega) only [go_sem, e7, e1]
  refine RC_intro (fun hc => ?_) (fun hc => ?_)
  · simp only [decide_eq_true_eq] at hc
    obtain ⟨r, hr⟩ : ∃ r, r = m % 256 := ⟨_, rfl⟩
    obtain ⟨q, hq⟩ : ∃ q, q = m / 256 := ⟨_, rfl⟩
    have hrem : (m : Int).tmod 256 = (r : Int) := by rw [Int.tmod_eq_emod_of_nonneg (by omega), hr]; omega
    have hquo : (m : Int).tdiv 256 = (q : Int) := by rw [Int.tdiv_eq_ediv_of_nonneg (by omega), hq]; omega
    simp -implicitDefEqProofs (disch := omega) only [go_sem, e0, e6, hrem, hquo]
    refine RRun_build1 bytes_sl rfl fun g hg => ?_
    simp -implicitDefEqProofs (disch := omega) only [go_sem]
    refine RRun_append_byte (e' := 0) (x := b8 (r : Int)) bytes_sl (fun _ hs => hs.2.2.2) (by rw [look_same]; rfl) (by omega) fun a' c' hc' => ?_
    simp -implicitDefEqProofs (disch := omega) only [go_sem, e0, e7, hquo]
    have hdi : d - i = (d - (i + 1)) + 1 := by omega
    refine hQ' _ _ fun w1 hs => ⟨_, hs, ⟨q, i + 1, acc ++ [b8 (r : Int)], a', c', ?_, ?_, ?_, ?_, ?_, ?_, ?_, ?_, ?_, ?_, ?_, rfl⟩, ?_⟩
    · omega
    · omega
    · simp [hal]
    · rw [hdi] at hacc
      rw [b8_small, List.append_assoc, List.singleton_append, hq, hr]; exact hacc
    · rw [hdi, Nat.pow_succ, Nat.mul_comm, ← Nat.div_div_eq_div_mul] at hmd
      rw [hq]; exact hmd
    · simp -implicitDefEqProofs (disch := omega) only [go_sem]
    · simp -implicitDefEqProofs (disch := omega) only [go_sem, e1]
    · simp -implicitDefEqProofs (disch := omega) only [go_sem, e4]
    · simp -implicitDefEqProofs (disch := omega) only [go_sem, e5]
    · simp -implicitDefEqProofs (disch := omega) only [go_sem]; rfl
    · simp -implicitDefEqProofs (disch := omega) only [go_sem]
    · simp -implicitDefEqProofs (disch := omega) only [go_sem, e7]; omega
  · simp only [decide_eq_false_iff_not] at hc
    have hid : i = d := by omega
    subst hid
    rw [Nat.sub_self, Nat.pow_zero, Nat.div_one] at hmd
    rw [Nat.sub_self] at hacc
    have hacc' : acc = Vint.fixL i m0 := by rw [← hacc]; simp [Vint.fixL]
    rw [← hmd, ← hacc'] at hf
    rw [hf] at hQ
    simp -implicitDefEqProofs (disch := omega) only [go_sem, e0]
    refine RC_intro (fun hc => ?_) (fun hc => ?_)
    · simp only [decide_eq_true_eq] at hc
      rw [if_neg (by omega)] at hQ
      simp -implicitDefEqProofs (disch := omega) only [go_sem]
      exact hQ _ _ fun w' hs => ⟨rfl, hs.anchor (by simp)⟩
    · simp only [decide_eq_false_iff_not] at hc
      rw [if_pos (by omega)] at hQ
      simp -implicitDefEqProofs (disch := omega) only [go_sem, e6]
      refine RRun_str_own bytes_t Try.underlying9 ?_
      simp -implicitDefEqProofs (disch := omega) only [go_sem]
      exact hQ _ _ fun w' hs => ⟨rfl, hs.anchor (by simp)⟩
theorem shr8n (m i : Nat) (hi : i ≤ 8) : (m : Int).fdiv (2 ^ min (8 * (i : Int)).toNat 64) = ((m / 256 ^ i : Nat) : Int) := by
  have h1 : min (8 * (i : Int)).toNat 64 = 8 * i := by omega
  rw [h1, Int.fdiv_eq_ediv_of_nonneg _ (Int.pow_nonneg (by decide)), Int.pow_mul, Int.natCast_ediv, Int.natCast_pow]; rfl
theorem b8_low (m : Nat) : b8 (m : Int) = UInt8.ofNat (m % 256) := by
  rw [b8_small]
  apply UInt8.toNat_inj.1
  rw [UInt8.toNat_ofNat', UInt8.toNat_ofNat']
  omega
set_option maxHeartbeats 400000 in
theorem vint_fixed (n wd : Int) (hn : -9223372036854775808 ≤ n ∧ n ≤ 9223372036854775807) (w : World) : Does Try.prog 61 #[.int .i64 n, .int .i64 wd] w fun v w' => v = .tuple #[str (Vint.fixed n wd).1, .int .i64 (Vint.fixed n wd).2] ∧ Ext [] w w' := by
  refine does (args := [.int .i64 n, .int .i64 wd]) Try.func61 rfl (by kernel_rfl) (by kernel_rfl) rfl ent_61 (Sat.start w []) ?_; intro QV hQ
  simp -implicitDefEqProofs (disch := omega) only [go_sem]
  refine RCall_eq (vint_wide _) ?_
  by_cases hw : (wd = 1 ∨ wd = 2 ∨ wd = 4 ∨ wd = 8)
  rotate_left
  · simp -implicitDefEqProofs (disch := omega) only [go_sem, decide_eq_false hw]
    exact hQ _ _ fun w' hs => ⟨by simp only [Vint.fixed, Vint.wide, hw, not_false_eq_true, true_or, if_true], hs.anchor (by simp)⟩
  by_cases hc : n < 0
  · simp -implicitDefEqProofs (disch := omega) only [go_sem, decide_eq_true hw, decide_eq_true hc]
    exact hQ _ _ fun w' hs => ⟨by simp only [Vint.fixed, Vint.wide, hc, or_true, if_true], hs.anchor (by simp)⟩
  obtain ⟨m0, rfl⟩ := Int.eq_ofNat_of_zero_le (show 0 ≤ n by omega)
  obtain ⟨d, rfl⟩ := Int.eq_ofNat_of_zero_le (show 0 ≤ wd by omega)
  have hf : Vint.fixed (m0 : Int) (d : Int) = if m0 / 256 ^ d = 0 then (Vint.fixL d m0, 0) else ([], 1) := by
    have : ¬ (¬ Vint.wide (d : Int) ∨ (m0 : Int) < 0) := by unfold Vint.wide; omega
    unfold Vint.fixed; rw [if_neg this]; rfl
  have hd8 : d ≤ 8 := by omega
  rw [hf] at hQ
  by_cases hlt : (d : Int) < 8
  rotate_left
  · have hd8' : d = 8 := by omega
    have hz : m0 / 256 ^ d = 0 := by rw [hd8']; omega
    rw [if_pos hz] at hQ
    simp -implicitDefEqProofs (disch := omega) only [go_sem, decide_eq_true hw, decide_eq_false hc, hlt, decide_false]
    refine RRun_make (n := d) (zv := byte 0) bytes_sl (by rw [zero_5]; rfl) (by omega) (by omega) fun g hg => ?_
    rw [Nat.mul_one, made_bytes]
    simp only [below_cons, below_nil, under_anchor, and_true] at hg
    simp -implicitDefEqProofs (disch := omega) only [go_sem]
    refine RLoop_intro (fun f h => ∃ i : Nat, i ≤ d ∧ f 0 = .int .i64 (m0 : Int) ∧ f 5 = .int .i64 0 ∧ f 6 = .slice (some ⟨g, 0, none⟩) d d ∧ f 30 = .int .i64 (d : Int) ∧ f 31 = .int .i64 (i : Int) ∧
      h = [.cells g 5 ((Vint.fixR d m0 i).map byte).toArray, .anchor w []]) (fun f _ => (d - ival (f 31)).toNat) ?_ ?_
    · exact ⟨0, by omega, by simp -implicitDefEqProofs (disch := omega) only [go_sem], by simp -implicitDefEqProofs (disch := omega) only [go_sem], by simp -implicitDefEqProofs (disch := omega) only [go_sem], by simp -implicitDefEqProofs (disch := omega) only [go_sem], by simp -implicitDefEqProofs (disch := omega) only [go_sem]; rfl, rfl⟩
    rintro f h ⟨i, hi, e0, e5, e6, e30, e31, rfl⟩ Q' hQ'
    simp -implicitDefEqProofs (disch := omega) only [go_sem, e30, e31]
    refine RC_intro (fun hc => ?_) (fun hc => ?_)
    · simp only [decide_eq_true_eq] at hc
      have hrl := Vint.fixR_len d m0 i (by omega)
      have hset : ((Vint.fixR d m0 i).map byte).set i (byte (UInt8.ofNat (m0 / 256 ^ i % 256))) = (Vint.fixR d m0 (i + 1)).map byte := by
        rw [brow_set0 _ _ _ (by omega), Vint.fixR_set d m0 i (by omega)]
      simp -implicitDefEqProofs (disch := omega) only [go_sem, e0, e6, e31, shr8n m0 i (by omega), b8_low, hset, hrl]
      refine hQ' _ _ _ (fun _ h => h) ⟨i + 1, by omega, ?_, ?_, ?_, ?_, ?_, rfl⟩ ?_
      · simp -implicitDefEqProofs (disch := omega) only [go_sem, e0]
      · simp -implicitDefEqProofs (disch := omega) only [go_sem, e5]
      · simp -implicitDefEqProofs (disch := omega) only [go_sem, e6]
      · simp -implicitDefEqProofs (disch := omega) only [go_sem, e30]
      · simp -implicitDefEqProofs (disch := omega) only [go_sem]; rfl
      · simp -implicitDefEqProofs (disch := omega) only [go_sem, e31]; omega
    · simp only [decide_eq_false_iff_not] at hc
      have hid : i = d := by omega
      subst hid
      simp -implicitDefEqProofs (disch := omega) only [go_sem, e6]
      refine RRun_str_row0 bytes_t Try.underlying9 (Vint.fixR_len i m0 i (by omega)) ?_
      simp -implicitDefEqProofs (disch := omega) only [go_sem]
      rw [Vint.fixR_all]
      exact hQ _ _ fun w' hs => ⟨rfl, hs.anchor (by simp)⟩
  · simp -implicitDefEqProofs (disch := omega) only [go_sem, decide_eq_true hw, decide_eq_false hc, hlt, decide_true, shr8n m0 d (by omega)]
    refine RC_intro (fun hc => ?_) (fun hc => ?_)
    · simp only [Bool.not_eq_true', decide_eq_false_iff_not] at hc
      rw [if_neg (by omega)] at hQ
      simp -implicitDefEqProofs (disch := omega) only [go_sem]
      exact hQ _ _ fun w' hs => ⟨rfl, hs.anchor (by simp)⟩
    · simp only [Bool.not_eq_false', decide_eq_true_eq] at hc
      rw [if_pos (by omega)] at hQ
      simp -implicitDefEqProofs (disch := omega) only [go_sem]
      refine RRun_make (n := d) (zv := byte 0) bytes_sl (by rw [zero_5]; rfl) (by omega) (by omega) fun g hg => ?_
      rw [Nat.mul_one, made_bytes]
      simp only [below_cons, below_nil, under_anchor, and_true] at hg
      simp -implicitDefEqProofs (disch := omega) only [go_sem]
      refine RLoop_intro (fun f h => ∃ i : Nat, i ≤ d ∧ f 0 = .int .i64 (m0 : Int) ∧ f 5 = .int .i64 0 ∧ f 6 = .slice (some ⟨g, 0, none⟩) d d ∧ f 30 = .int .i64 (d : Int) ∧ f 31 = .int .i64 (i : Int) ∧
        h = [.cells g 5 ((Vint.fixR d m0 i).map byte).toArray, .anchor w []]) (fun f _ => (d - ival (f 31)).toNat) ?_ ?_
      · exact ⟨0, by omega, by simp -implicitDefEqProofs (disch := omega) only [go_sem], by simp -implicitDefEqProofs (disch := omega) only [go_sem], by simp -implicitDefEqProofs (disch := omega) only [go_sem], by simp -implicitDefEqProofs (disch := omega) only [go_sem], by simp -implicitDefEqProofs (disch := omega) only [go_sem]; rfl, rfl⟩
      rintro f h ⟨i, hi, e0, e5, e6, e30, e31, rfl⟩ Q' hQ'
      simp -implicitDefEqProofs (disch := omega) only [go_sem, e30, e31]
      refine RC_intro (fun hc => ?_) (fun hc => ?_)
      · simp only [decide_eq_true_eq] at hc
        have hrl := Vint.fixR_len d m0 i (by omega)
        have hset : ((Vint.fixR d m0 i).map byte).set i (byte (UInt8.ofNat (m0 / 256 ^ i % 256))) = (Vint.fixR d m0 (i + 1)).map byte := by
          rw [brow_set0 _ _ _ (by omega), Vint.fixR_set d m0 i (by omega)]
        simp -implicitDefEqProofs (disch := omega) only [go_sem, e0, e6, e31, shr8n m0 i (by omega), b8_low, hset, hrl]
        refine hQ' _ _ _ (fun _ h => h) ⟨i + 1, by omega, ?_, ?_, ?_, ?_, ?_, rfl⟩ ?_
        · simp -implicitDefEqProofs (disch := omega) only [go_sem, e0]
        · simp -implicitDefEqProofs (disch := omega) only [go_sem, e5]
        · simp -implicitDefEqProofs (disch := omega) only [go_sem, e6]
        · simp -implicitDefEqProofs (disch := omega) only [go_sem, e30]
        · simp -implicitDefEqProofs (disch := omega) only [go_sem]; rfl
        · simp -implicitDefEqProofs (disch := omega) only [go_sem, e31]; omega
      · simp only [decide_eq_false_iff_not] at hc
        have hid : i = d := by omega
        subst hid
        simp -implicitDefEqProofs (disch := omega) only [go_sem, e6]
        refine RRun_str_row0 bytes_t Try.underlying9 (Vint.fixR_len i m0 i (by omega)) ?_
        simp -implicitDefEqProofs (disch := omega) only [go_sem]
        rw [Vint.fixR_all]
        exact hQ _ _ fun w' hs => ⟨rfl, hs.anchor (by simp)⟩
end Go.Proofs.Ytldidoaagijnhaa
