/- CRC-32 as a linear map of bits. -/
import Derived.Test.YtldidoaagijnhaaCrcM
namespace Go.Proofs.Ytldidoaagijnhaa
set_option linter.unusedSimpArgs false
set_option linter.unusedVariables false
namespace Crc
theorem and1 (x : BitVec 32) : (x &&& 1#32 = 0#32) ↔ x.getLsbD 0 = false := by
  constructor
  · intro h
    have := congrArg (fun y : BitVec 32 => y.getLsbD 0) h
    simpa using this
  · intro h
    apply BitVec.eq_of_getLsbD_eq
    intro i hi
    by_cases h0 : i = 0
    · subst h0; rw [BitVec.getLsbD_and, h]; simp
    · have : (1#32).getLsbD i = false := by
        simp [BitVec.getLsbD_one, h0]
      simp [this]
def sel (b : Bool) : BitVec 32 := if b then poly else 0#32
theorem ent1_eq (x : BitVec 32) : ent1 x = x >>> 1 ^^^ sel (x.getLsbD 0) := by
  unfold ent1 sel
  by_cases h : x &&& 1#32 = 0#32
  · rw [if_pos h, (and1 x).1 h]; simp
  · rw [if_neg h]
    have : x.getLsbD 0 = true := by
      cases hb : x.getLsbD 0 with
      | false => exact absurd ((and1 x).2 hb) h
      | true => rfl
    rw [this]; simp
theorem sel_xor (a b : Bool) : sel (a ^^ b) = sel a ^^^ sel b := by cases a <;> cases b <;> simp [sel]
theorem ent1_xor (x y : BitVec 32) : ent1 (x ^^^ y) = ent1 x ^^^ ent1 y := by
  rw [ent1_eq, ent1_eq, ent1_eq, BitVec.getLsbD_xor, sel_xor, BitVec.ushiftRight_xor_distrib]
  ac_rfl
theorem ent1_zero : ent1 0#32 = 0#32 := by decide
theorem entk_xor (k : Nat) (x y : BitVec 32) : entk k (x ^^^ y) = entk k x ^^^ entk k y := by
  induction k with
  | zero => rfl
  | succ k ih => simp only [entk]; rw [ih, ent1_xor]
theorem entk_zero (k : Nat) : entk k 0#32 = 0#32 := by
  induction k with
  | zero => rfl
  | succ k ih => simp only [entk]; rw [ih, ent1_zero]
theorem entry_xor (x y : BitVec 32) : entry (x ^^^ y) = entry x ^^^ entry y := entk_xor 8 x y
/-- The top bit of a step is the low bit of what it steps from. -/
theorem ent1_top (x : BitVec 32) : (ent1 x).getLsbD 31 = x.getLsbD 0 := by
  rw [ent1_eq, BitVec.getLsbD_xor, BitVec.getLsbD_ushiftRight]
  cases h : x.getLsbD 0 <;> simp [sel, poly]
theorem ent1_inj0 (x : BitVec 32) (h : ent1 x = 0#32) : x = 0#32 := by
  have h0 : x.getLsbD 0 = false := by rw [← ent1_top, h]; simp
  rw [ent1_eq, h0] at h
  simp only [sel, Bool.false_eq_true, if_false, BitVec.xor_zero] at h
  apply BitVec.eq_of_getLsbD_eq
  intro i hi
  rw [BitVec.getLsbD_zero]
  cases i with
  | zero => exact h0
  | succ i =>
    have := congrArg (fun y : BitVec 32 => y.getLsbD i) h
    simpa [BitVec.getLsbD_ushiftRight, Nat.add_comm] using this
theorem entk_inj0 (k : Nat) (x : BitVec 32) (h : entk k x = 0#32) : x = 0#32 := by
  induction k with
  | zero => exact h
  | succ k ih => exact ih (ent1_inj0 _ h)

theorem low_bits (c : BitVec 32) (b : UInt8) : BitVec.ofNat 32 (low c b).toNat = (c.setWidth 8 ^^^ b.toBitVec).setWidth 32 := by
  apply BitVec.eq_of_toNat_eq
  have h1 : (low c b).toNat = (c.setWidth 8 ^^^ b.toBitVec).toNat := rfl
  rw [h1, BitVec.toNat_ofNat, BitVec.toNat_setWidth]
theorem step_xor (c d : BitVec 32) (a b : UInt8) : step (c ^^^ d) (a ^^^ b) = step c a ^^^ step d b := by
  unfold step
  rw [low_bits, low_bits, low_bits]
  have : (BitVec.setWidth 8 (c ^^^ d) ^^^ (a ^^^ b).toBitVec).setWidth 32 = (c.setWidth 8 ^^^ a.toBitVec).setWidth 32 ^^^ (d.setWidth 8 ^^^ b.toBitVec).setWidth 32 := by
    rw [show (a ^^^ b).toBitVec = a.toBitVec ^^^ b.toBitVec from rfl]
    apply BitVec.eq_of_getLsbD_eq
    intro i hi
    simp only [BitVec.getLsbD_setWidth, BitVec.getLsbD_xor]
    by_cases h8 : i < 8
    · simp only [h8, hi, decide_true, Bool.true_and]
      generalize c.getLsbD i = p, d.getLsbD i = q, a.toBitVec.getLsbD i = r, b.toBitVec.getLsbD i = s
      cases p <;> cases q <;> cases r <;> cases s <;> rfl
    · simp only [h8, decide_false, Bool.false_and, Bool.and_false, BitVec.getLsbD_of_ge a.toBitVec i (by omega), BitVec.getLsbD_of_ge b.toBitVec i (by omega), Bool.xor_false]
  rw [this, entry_xor, BitVec.ushiftRight_xor_distrib]
  ac_rfl

def xor2 (a b : List UInt8) : List UInt8 := List.zipWith (· ^^^ ·) a b
theorem run_xor2 : ∀ (a b : List UInt8) (c d : BitVec 32), a.length = b.length → run (c ^^^ d) (xor2 a b) = run c a ^^^ run d b
  | [], [], c, d, _ => rfl
  | x :: a, y :: b, c, d, h => by
    simp only [List.length_cons, Nat.add_right_cancel_iff] at h
    show run (step (c ^^^ d) (x ^^^ y)) (xor2 a b) = run (step c x) a ^^^ run (step d y) b
    rw [step_xor, run_xor2 a b _ _ h]
theorem xor2_len (a b : List UInt8) (h : a.length = b.length) : (xor2 a b).length = a.length := by simp [xor2, h]
/-- Of three texts of one length. -/
theorem of_xor3 (a b c : List UInt8) (h1 : a.length = b.length) (h2 : a.length = c.length) : of a ^^^ of b ^^^ of c = of (xor2 (xor2 a b) c) := by
  unfold of on
  have hm : ~~~(0#32) ^^^ ~~~(0#32) ^^^ ~~~(0#32) = ~~~(0#32) := by decide
  have := run_xor2 (xor2 a b) c (~~~(0#32) ^^^ ~~~(0#32)) (~~~(0#32)) (by rw [xor2_len a b h1, h2])
  rw [hm, run_xor2 a b _ _ h1] at this
  rw [this]
  apply BitVec.eq_of_getLsbD_eq
  intro i hi
  simp only [BitVec.getLsbD_xor, BitVec.getLsbD_not, hi, decide_true, Bool.true_and]
  generalize (run (~~~0#32) a).getLsbD i = x
  generalize (run (~~~0#32) b).getLsbD i = y
  generalize (run (~~~0#32) c).getLsbD i = z
  cases x <;> cases y <;> cases z <;> rfl

-- bit by bit
/-- The first j bits of m, as a word. -/
def word (m : Nat → Bool) : Nat → BitVec 32
  | 0 => 0#32
  | j + 1 => word m j ^^^ (if m j then BitVec.twoPow 32 j else 0#32)
/-- The state behind j bits. -/
def brun (c : BitVec 32) (m : Nat → Bool) : Nat → BitVec 32
  | 0 => c
  | j + 1 => ent1 (brun c m j ^^^ (if m j then 1#32 else 0#32))
theorem entk_two (j : Nat) (hj : j < 32) : entk j (BitVec.twoPow 32 j) = 1#32 := by
  have h : ∀ i, i ≤ j → entk i (BitVec.twoPow 32 j) = BitVec.twoPow 32 (j - i) := by
    intro i
    induction i with
    | zero => intro _; rfl
    | succ i ih =>
      intro hi
      simp only [entk]
      rw [ih (by omega), ent1_eq]
      have h0 : (BitVec.twoPow 32 (j - i)).getLsbD 0 = false := by
        rw [BitVec.getLsbD_twoPow]; simp; omega
      rw [h0]
      apply BitVec.eq_of_getLsbD_eq
      intro k hk
      simp only [sel, Bool.false_eq_true, if_false, BitVec.xor_zero, BitVec.getLsbD_ushiftRight, BitVec.getLsbD_twoPow]
      simp only [show (j - i < 32) from by omega, show (j - (i + 1) < 32) from by omega, decide_true, Bool.true_and]
      simp only [decide_eq_decide]
      omega
  rw [h j (Nat.le_refl _), Nat.sub_self]; rfl
theorem brun_word (c : BitVec 32) (m : Nat → Bool) : ∀ j, j ≤ 32 → brun c m j = entk j (c ^^^ word m j)
  | 0, _ => by simp [brun, word, entk]
  | j + 1, hj => by
    simp only [brun, word, entk]
    rw [brun_word c m j (by omega), ← BitVec.xor_assoc, entk_xor j (c ^^^ word m j)]
    cases m j
    · simp [entk_zero]
    · simp only [if_true]; rw [entk_two j (by omega)]
theorem brun_quiet (m : Nat → Bool) (c : BitVec 32) (k : Nat) : ∀ j, (∀ i, k ≤ i → i < k + j → m i = false) → brun c m (k + j) = entk j (brun c m k)
  | 0, _ => rfl
  | j + 1, h => by
    show ent1 (brun c m (k + j) ^^^ (if m (k + j) then 1#32 else 0#32)) = ent1 (entk j (brun c m k))
    rw [brun_quiet m c k j fun i h1 h2 => h i h1 (by omega), h (k + j) (by omega) (by omega)]
    simp
theorem brun_add (m : Nat → Bool) (c : BitVec 32) (k : Nat) : ∀ j, brun c m (k + j) = brun (brun c m k) (fun i => m (k + i)) j
  | 0 => rfl
  | j + 1 => by
    show ent1 (brun c m (k + j) ^^^ (if m (k + j) then 1#32 else 0#32)) = ent1 (brun (brun c m k) (fun i => m (k + i)) j ^^^ (if m (k + j) then 1#32 else 0#32))
    rw [brun_add m c k j]
theorem word_get (m : Nat → Bool) : ∀ j, j ≤ 32 → ∀ i, (word m j).getLsbD i = (decide (i < j) && m i)
  | 0, _, i => by simp [word]
  | j + 1, hj, i => by
    simp only [word]
    rw [BitVec.getLsbD_xor, word_get m j (by omega) i]
    by_cases h : i = j
    · subst h
      cases m i
      · simp
      · simp [BitVec.getLsbD_twoPow]; omega
    · have e : decide (i < j + 1) = decide (i < j) := by simp only [decide_eq_decide]; omega
      rw [e]
      cases m j
      · simp
      · simp [BitVec.getLsbD_twoPow, Ne.symm h]
/-- A burst within 32 bits is seen. -/
theorem brun_burst (m : Nat → Bool) (k n : Nat) (hk : k ≤ n) (hz : ∀ i, i < k → m i = false) (hq : ∀ i, k + 32 ≤ i → i < n → m i = false) (h : brun 0#32 m n = 0#32) : ∀ i, i < n → m i = false := by
  have h0 : brun 0#32 m k = 0#32 := by
    have := brun_quiet m 0#32 0 k fun i _ hi => hz i (by omega)
    rw [Nat.zero_add] at this
    rw [this]
    exact entk_zero k
  have hj : ∀ j, j ≤ 32 → k + j ≤ n → brun 0#32 m (k + j) = entk j (word (fun i => m (k + i)) j) := by
    intro j h1 _
    rw [brun_add m _ k j, h0, brun_word _ _ j h1, BitVec.zero_xor]
  intro i hi
  by_cases hik : i < k
  · exact hz i hik
  have hw : ∃ j, j ≤ 32 ∧ k + j ≤ n ∧ word (fun i => m (k + i)) j = 0#32 ∧ (j = 32 ∨ k + j = n) := by
    by_cases hn : k + 32 ≤ n
    · refine ⟨32, by omega, hn, ?_, .inl rfl⟩
      have hq' := brun_quiet m 0#32 (k + 32) (n - (k + 32)) fun i h1 h2 => hq i h1 (by omega)
      rw [show k + 32 + (n - (k + 32)) = n by omega, h] at hq'
      have := entk_inj0 _ _ hq'.symm
      rw [hj 32 (by omega) hn] at this
      exact entk_inj0 _ _ this
    · refine ⟨n - k, by omega, by omega, ?_, .inr (by omega)⟩
      have := hj (n - k) (by omega) (by omega)
      rw [show k + (n - k) = n by omega, h] at this
      exact entk_inj0 _ _ this.symm
  obtain ⟨j, hj1, hj2, hj3, hj4⟩ := hw
  by_cases hij : i - k < j
  · have := word_get (fun i => m (k + i)) j hj1 (i - k)
    rw [hj3] at this
    simp only [BitVec.getLsbD_zero, hij, decide_true, Bool.true_and] at this
    rw [show k + (i - k) = i by omega] at this
    exact this.symm
  · exact hq i (by omega) hi
/-- The bits of bytes. -/
def bits (l : List UInt8) (i : Nat) : Bool := (l.getD (i / 8) 0).toBitVec.getLsbD (i % 8)
theorem step_bits (c : BitVec 32) (b : UInt8) (m : Nat → Bool) (hm : ∀ i, i < 8 → m i = b.toBitVec.getLsbD i) : brun c m 8 = step c b := by
  rw [brun_word c m 8 (by omega)]
  have hw : word m 8 = b.toBitVec.setWidth 32 := by
    apply BitVec.eq_of_getLsbD_eq
    intro i hi
    rw [word_get m 8 (by omega) i, BitVec.getLsbD_setWidth]
    by_cases h8 : i < 8
    · simp [h8, hi, hm i h8]
    · simp [h8, BitVec.getLsbD_of_ge b.toBitVec i (by omega)]
  rw [hw]
  have hs : c ^^^ b.toBitVec.setWidth 32 = BitVec.ofNat 32 (low c b).toNat ^^^ (c >>> 8) <<< 8 := by
    rw [low_bits]
    apply BitVec.eq_of_getLsbD_eq
    intro i hi
    simp only [BitVec.getLsbD_xor, BitVec.getLsbD_setWidth, BitVec.getLsbD_shiftLeft, BitVec.getLsbD_ushiftRight]
    by_cases h8 : i < 8
    · simp [h8, hi]
    · simp [h8, hi, show 8 + (i - 8) = i by omega, BitVec.getLsbD_of_ge b.toBitVec i (by omega)]
  rw [hs, entk_xor]
  unfold step entry
  congr 1
  have : ∀ j, j ≤ 8 → entk j ((c >>> 8) <<< 8) = (c >>> 8) <<< (8 - j) := by
    intro j
    induction j with
    | zero => intro _; rfl
    | succ j ih =>
      intro hj
      simp only [entk]
      rw [ih (by omega), ent1_eq]
      have h0 : ((c >>> 8) <<< (8 - j)).getLsbD 0 = false := by
        rw [BitVec.getLsbD_shiftLeft]; simp; omega
      rw [h0]
      apply BitVec.eq_of_getLsbD_eq
      intro i hi
      simp only [sel, Bool.false_eq_true, if_false, BitVec.xor_zero, BitVec.getLsbD_ushiftRight, BitVec.getLsbD_shiftLeft]
      by_cases h1 : i < 8 - (j + 1)
      · simp only [h1, show 1 + i < 8 - j by omega, decide_true, Bool.not_true, Bool.and_false, Bool.false_and]
      · rw [show 8 + (1 + i - (8 - j)) = 8 + (i - (8 - (j + 1))) by omega]
        by_cases h2 : 1 + i < 32
        · simp only [h1, hi, h2, show ¬ 1 + i < 8 - j by omega, decide_true, decide_false, Bool.not_false, Bool.true_and]
        · have h31 : i = 31 := by omega
          subst h31
          simp only [show ¬ (1 + 31 < 32) by omega, decide_false, Bool.false_and]
          rw [BitVec.getLsbD_of_ge c _ (by omega)]
          simp
  rw [this 8 (by omega)]
  simp
theorem run_bits : ∀ (l : List UInt8) (c : BitVec 32), run c l = brun c (bits l) (8 * l.length)
  | [], c => rfl
  | b :: l, c => by
    show run (step c b) l = _
    rw [run_bits l (step c b), List.length_cons, show 8 * (l.length + 1) = 8 + 8 * l.length by omega, brun_add _ _ 8]
    rw [step_bits c b (bits (b :: l)) fun i hi => by
      unfold bits
      rw [show i / 8 = 0 by omega, show i % 8 = i by omega]; rfl]
    congr 1
    funext i
    unfold bits
    rw [show (8 + i) / 8 = i / 8 + 1 by omega, show (8 + i) % 8 = i % 8 by omega]
    rfl
theorem brun_xor (m n : Nat → Bool) (c d : BitVec 32) : ∀ j, brun (c ^^^ d) (fun i => m i ^^ n i) j = brun c m j ^^^ brun d n j
  | 0 => rfl
  | j + 1 => by
    show ent1 (brun (c ^^^ d) (fun i => m i ^^ n i) j ^^^ (if m j ^^ n j then 1#32 else 0#32)) = ent1 (brun c m j ^^^ (if m j then 1#32 else 0#32)) ^^^ ent1 (brun d n j ^^^ (if n j then 1#32 else 0#32))
    rw [brun_xor m n c d j, ← ent1_xor]
    congr 1
    have : (if m j ^^ n j then 1#32 else 0#32) = (if m j then 1#32 else 0#32) ^^^ (if n j then 1#32 else 0#32) := by cases m j <;> cases n j <;> rfl
    rw [this]
    ac_rfl
theorem brun_congr (m n : Nat → Bool) (c : BitVec 32) : ∀ j, (∀ i, i < j → m i = n i) → brun c m j = brun c n j
  | 0, _ => rfl
  | j + 1, h => by
    simp only [brun]
    rw [brun_congr m n c j fun i hi => h i (by omega), h j (by omega)]
/-- Texts of one length that differ within 32 bits have other sums. -/
theorem of_burst (a b : List UInt8) (hl : a.length = b.length) (k : Nat) (hk : k ≤ 8 * a.length) (hz : ∀ i, i < k → bits a i = bits b i) (hq : ∀ i, k + 32 ≤ i → i < 8 * a.length → bits a i = bits b i) (h : of a = of b) : ∀ i, i < 8 * a.length → bits a i = bits b i := by
  have hr : run (~~~0#32) a = run (~~~0#32) b := by
    unfold of on at h
    have := congrArg (fun x : BitVec 32 => ~~~x) h
    simpa only [BitVec.not_not] using this
  rw [run_bits, run_bits, ← hl] at hr
  have hx := brun_xor (bits a) (bits b) (~~~0#32) (~~~0#32) (8 * a.length)
  rw [hr, BitVec.xor_self, BitVec.xor_self] at hx
  have := brun_burst (fun i => bits a i ^^ bits b i) k (8 * a.length) hk (fun i hi => by simp [hz i hi]) (fun i h1 h2 => by simp [hq i h1 h2]) hx
  intro i hi
  have := this i hi
  simpa using this
end Crc
end Go.Proofs.Ytldidoaagijnhaa
