/- Words of 32 bits and bytes as values of the walk. -/
import Derived.Test.YtldidoaagijnhaaEval
import Derived.Laws.BitsLemmas
namespace Go.Proofs.Ytldidoaagijnhaa
set_option linter.unusedSimpArgs false
set_option linter.unusedVariables false
namespace H
def u32 (x : BitVec 32) : Value := .int .u32 (x.toNat : Int)

theorem u32_nat (n : Nat) (h : n < 4294967296) : Value.int .u32 (n : Int) = u32 (BitVec.ofNat 32 n) := by
  simp [u32, Nat.mod_eq_of_lt h]
theorem u32_0 : Value.int .u32 0 = u32 0#32 := rfl
theorem u32_1 : Value.int .u32 1 = u32 1#32 := rfl
theorem u32_2 : Value.int .u32 2 = u32 2#32 := rfl
theorem u32_256 : Value.int .u32 256 = u32 256#32 := rfl
theorem u32_65535 : Value.int .u32 65535 = u32 65535#32 := rfl
theorem u32_65536 : Value.int .u32 65536 = u32 65536#32 := rfl
theorem u32_3988292384 : Value.int .u32 3988292384 = u32 3988292384#32 := rfl

theorem ofInt_toNat32 (x : BitVec 32) : BitVec.ofInt IntKind.u32.bits (x.toNat : Int) = x := by
  show BitVec.ofInt 32 _ = x
  simp
theorem wrap_u32_nat (n : Nat) (h : n < 4294967296) : IntKind.u32.wrap (n : Int) = n := by rw [IntKind.wrap_u32]; omega

def u32V (op : BinOp) (a b : BitVec 32) : Option Value :=
  match op with
  | .and => some (u32 (a &&& b))
  | .or => some (u32 (a ||| b))
  | .xor => some (u32 (a ^^^ b))
  | .rem => if b ≠ 0#32 then some (u32 (a % b)) else none
  | .quo => if b ≠ 0#32 then some (u32 (a / b)) else none
  | .eql => some (.bool (decide (a = b)))
  | .neq => some (.bool (!decide (a = b)))
  | _ => none
theorem bits_u32 (op : BinOp) (a b : BitVec 32) : bits op .u32 (a.toNat : Int) (b.toNat : Int) = ((match op with | .and => a &&& b | .or => a ||| b | .xor => a ^^^ b | _ => a &&& ~~~b : BitVec 32).toNat : Int) := by
  unfold bits
  simp only [ofInt_toNat32]
  have hw : ∀ x : BitVec 32, IntKind.u32.wrap (x.toNat : Int) = (x.toNat : Int) := fun x => wrap_u32_nat _ x.isLt
  cases op <;> exact hw _
theorem u32V_int (op : BinOp) (a b : BitVec 32) (v : Value) (h : u32V op a b = some v) : intV op .u32 (a.toNat : Int) .u32 (b.toNat : Int) = some v := by
  have heq : decide (a = b) = decide ((a.toNat : Int) = (b.toNat : Int)) := by
    rw [decide_eq_decide]
    constructor
    · intro h; rw [h]
    · intro h; exact BitVec.eq_of_toNat_eq (by omega)
  have hnz : b ≠ 0#32 → (b.toNat : Int) ≠ 0 := by
    intro h1 h2
    exact h1 (BitVec.eq_of_toNat_eq (by simpa using h2))
  unfold u32V at h
  split at h
  case h_4 =>
    split at h
    · rename_i hb
      injection h with h; subst h
      rw [intV_rem _ _ _ (hnz hb)]
      simp only [u32, BitVec.toNat_umod, Option.some.injEq, Value.int.injEq, true_and]
      rw [Int.tmod_eq_emod_of_nonneg (by omega)]; omega
    · cases h
  case h_5 =>
    split at h
    · rename_i hb
      injection h with h; subst h
      rw [intV_quo _ _ _ (hnz hb)]
      simp only [u32, BitVec.toNat_udiv, Option.some.injEq, Value.int.injEq, true_and]
      rw [Int.tdiv_eq_ediv_of_nonneg (by omega)]
      have := wrap_u32_nat (a.toNat / b.toNat) (Nat.lt_of_le_of_lt (Nat.div_le_self _ _) a.isLt)
      rw [← this]; simp
    · cases h
  all_goals first
    | (cases h; done)
    | (injection h with h; subst h; simp only [intV_and, intV_or, intV_xor, bits_u32]; rfl)
    | (injection h with h; subst h; simp only [intV_eql, intV_neq, heq])
section
variable (P : Program) (κ : Pt) (f : Fr) (h : List Res) (Q : Exit → Fr → List Res → Prop)
theorem RB_u32_of (op : BinOp) (t : TypeId) (x y : Operand) (a b : BitVec 32) (v : Value) (hv : u32V op a b = some v) : RB P op t x y (u32 a) (u32 b) κ f h Q = RV P κ v f h Q := by
  unfold u32
  rw [RB_int, u32V_int op a b v hv, RVo_some]
theorem RB_u32_and (t : TypeId) (x y : Operand) (a b : BitVec 32) : RB P .and t x y (u32 a) (u32 b) κ f h Q = RV P κ (u32 (a &&& b)) f h Q := RB_u32_of P κ f h Q _ t x y a b _ rfl
theorem RB_u32_or (t : TypeId) (x y : Operand) (a b : BitVec 32) : RB P .or t x y (u32 a) (u32 b) κ f h Q = RV P κ (u32 (a ||| b)) f h Q := RB_u32_of P κ f h Q _ t x y a b _ rfl
theorem RB_u32_xor (t : TypeId) (x y : Operand) (a b : BitVec 32) : RB P .xor t x y (u32 a) (u32 b) κ f h Q = RV P κ (u32 (a ^^^ b)) f h Q := RB_u32_of P κ f h Q _ t x y a b _ rfl
theorem RB_u32_eql (t : TypeId) (x y : Operand) (a b : BitVec 32) : RB P .eql t x y (u32 a) (u32 b) κ f h Q = RV P κ (.bool (decide (a = b))) f h Q := RB_u32_of P κ f h Q _ t x y a b _ rfl
theorem RB_u32_neq (t : TypeId) (x y : Operand) (a b : BitVec 32) : RB P .neq t x y (u32 a) (u32 b) κ f h Q = RV P κ (.bool (!decide (a = b))) f h Q := RB_u32_of P κ f h Q _ t x y a b _ rfl
theorem RB_u32_rem (t : TypeId) (x y : Operand) (a b : BitVec 32) (hb : b ≠ 0#32) : RB P .rem t x y (u32 a) (u32 b) κ f h Q = RV P κ (u32 (a % b)) f h Q :=
  RB_u32_of P κ f h Q _ t x y a _ _ (by simp only [u32V, ne_eq, hb, not_false_eq_true, if_true])
theorem RB_u32_quo (t : TypeId) (x y : Operand) (a b : BitVec 32) (hb : b ≠ 0#32) : RB P .quo t x y (u32 a) (u32 b) κ f h Q = RV P κ (u32 (a / b)) f h Q :=
  RB_u32_of P κ f h Q _ t x y a _ _ (by simp only [u32V, ne_eq, hb, not_false_eq_true, if_true])
theorem RB_u32_rem2 (t : TypeId) (x y : Operand) (a : BitVec 32) : RB P .rem t x y (u32 a) (u32 2#32) κ f h Q = RV P κ (u32 (a % 2#32)) f h Q := RB_u32_rem P κ f h Q t x y a _ (by decide)
theorem RB_u32_rem256 (t : TypeId) (x y : Operand) (a : BitVec 32) : RB P .rem t x y (u32 a) (u32 256#32) κ f h Q = RV P κ (u32 (a % 256#32)) f h Q := RB_u32_rem P κ f h Q t x y a _ (by decide)
theorem RB_u32_rem65536 (t : TypeId) (x y : Operand) (a : BitVec 32) : RB P .rem t x y (u32 a) (u32 65536#32) κ f h Q = RV P κ (u32 (a % 65536#32)) f h Q := RB_u32_rem P κ f h Q t x y a _ (by decide)
theorem RB_u32_quo2 (t : TypeId) (x y : Operand) (a : BitVec 32) : RB P .quo t x y (u32 a) (u32 2#32) κ f h Q = RV P κ (u32 (a / 2#32)) f h Q := RB_u32_quo P κ f h Q t x y a _ (by decide)
theorem RB_u32_quo256 (t : TypeId) (x y : Operand) (a : BitVec 32) : RB P .quo t x y (u32 a) (u32 256#32) κ f h Q = RV P κ (u32 (a / 256#32)) f h Q := RB_u32_quo P κ f h Q t x y a _ (by decide)
theorem RB_u32_shr (t : TypeId) (x y : Operand) (a : BitVec 32) (k : IntKind) (n : Int) (h0 : 0 ≤ n) (h1 : n ≤ 32) : RB P .shr t x y (u32 a) (.int k n) κ f h Q = RV P κ (u32 (a >>> n.toNat)) f h Q := by
  unfold u32
  rw [RB_int, intV_shr _ _ _ _ h0, RVo_some]
  congr 2
  have hm : min n.toNat IntKind.u32.bits = n.toNat := by show min n.toNat 32 = n.toNat; omega
  rw [hm, BitVec.toNat_ushiftRight, Nat.shiftRight_eq_div_pow, Int.fdiv_eq_ediv_of_nonneg _ (Int.pow_nonneg (by decide))]
  rw [Int.natCast_ediv, Int.natCast_pow]
  rfl
theorem pure_xor_u32 (a : BitVec 32) : pureV P (Op.unary .xor (u32 a)) = some (u32 (~~~a)) := pureV_eq fun w => by
  show Result.ok (Value.int .u32 (bits .xor .u32 (4294967295 : Int) (a.toNat : Int))) w = _
  rw [show (4294967295 : Int) = ((4294967295#32).toNat : Int) from rfl, bits_u32]
  show Result.ok (u32 (4294967295#32 ^^^ a)) w = Result.ok (u32 (~~~a)) w
  rw [show 4294967295#32 ^^^ a = ~~~a from by rw [show (4294967295#32 : BitVec 32) = BitVec.allOnes 32 from rfl, BitVec.allOnes_xor]]

def cvU32 (k : IntKind) (a : BitVec 32) : Value :=
  match k with
  | .u8 => byte ⟨a.setWidth 8⟩
  | .u32 => u32 a
  | k => .int k (k.wrap (a.toNat : Int))
theorem cvU32_eq (k : IntKind) (a : BitVec 32) : Value.int k (k.wrap (a.toNat : Int)) = cvU32 k a := by
  unfold cvU32
  split
  · rw [IntKind.wrap_u8]
    unfold byte
    congr 1
  · rw [wrap_u32_nat _ a.isLt]; rfl
  · rfl
theorem RConv_u32 (s d : TypeId) (a : BitVec 32) : RConv P s d (u32 a) κ f h Q = RVo P ((kd P s).bind fun _ => (kd P d).bind fun k => (ikd k).map fun k => cvU32 k a) κ f h Q := by
  unfold u32
  rw [RConv_int]
  simp only [cvU32_eq]
theorem cvU32_u8 (a : BitVec 32) : cvU32 .u8 a = byte ⟨a.setWidth 8⟩ := rfl
theorem cvU32_u32 (a : BitVec 32) : cvU32 .u32 a = u32 a := rfl
theorem cvU32_i64 (a : BitVec 32) : cvU32 .i64 a = .int .i64 (a.toNat : Int) := by
  unfold cvU32
  simp only
  rw [wrap64 _ (by omega) (by have := a.isLt; omega)]
/-- int to a word. -/
theorem conv_to_u32 (n : Int) : Value.int .u32 (IntKind.u32.wrap n) = u32 (BitVec.ofInt 32 n) := by
  unfold u32
  rw [IntKind.wrap_u32, BitVec.toNat_ofInt]
  congr 1
  have := Int.emod_nonneg n (show (4294967296 : Int) ≠ 0 by decide)
  rw [show ((2 ^ 32 : Nat) : Int) = 4294967296 from rfl, Int.toNat_of_nonneg this]

-- bytes
def b8 (n : Int) : UInt8 := UInt8.ofNat (n % 256).toNat
theorem conv_to_u8 (n : Int) : Value.int .u8 (IntKind.u8.wrap n) = byte (b8 n) := by
  unfold byte b8
  rw [IntKind.wrap_u8]
  congr 1
  have h0 := Int.emod_nonneg n (show (256 : Int) ≠ 0 by decide)
  have h1 := Int.emod_lt_of_pos n (show (0 : Int) < 256 by decide)
  have : (UInt8.ofNat (n % 256).toNat).toNat = (n % 256).toNat := by
    rw [UInt8.toNat_ofNat']
    exact Nat.mod_eq_of_lt (by omega)
  rw [this]; omega
theorem u8_nat (n : Nat) (h : n < 256) : Value.int .u8 (n : Int) = byte (UInt8.ofNat n) := by
  unfold byte
  have : (UInt8.ofNat n).toNat = n := by rw [UInt8.toNat_ofNat']; exact Nat.mod_eq_of_lt h
  rw [this]
theorem u8_0 : Value.int .u8 0 = byte 0 := rfl
theorem u8_1 : Value.int .u8 1 = byte 1 := rfl
theorem u8_2 : Value.int .u8 2 = byte 2 := rfl
theorem u8_8 : Value.int .u8 8 = byte 8 := rfl
theorem u8_127 : Value.int .u8 127 = byte 127 := rfl
theorem u8_128 : Value.int .u8 128 = byte 128 := rfl
theorem ofInt_toNat8 (x : UInt8) : BitVec.ofInt IntKind.u8.bits (x.toNat : Int) = x.toBitVec := by
  show BitVec.ofInt 8 _ = _
  simp
theorem bits_u8 (op : BinOp) (a b : UInt8) : bits op .u8 (a.toNat : Int) (b.toNat : Int) = ((match op with | .and => a &&& b | .or => a ||| b | .xor => a ^^^ b | _ => a &&& ~~~b : UInt8).toNat : Int) := by
  unfold bits
  simp only [ofInt_toNat8]
  have hw : ∀ x : UInt8, IntKind.u8.wrap (x.toNat : Int) = (x.toNat : Int) := fun x => by
    rw [IntKind.wrap_u8]; have := x.toNat_lt; omega
  cases op <;> exact hw _
def u8V (op : BinOp) (a b : UInt8) : Option Value :=
  match op with
  | .and => some (byte (a &&& b))
  | .or => some (byte (a ||| b))
  | .xor => some (byte (a ^^^ b))
  | .andNot => some (byte (a &&& ~~~b))
  | .eql => some (.bool (decide (a = b)))
  | .neq => some (.bool (!decide (a = b)))
  | .lss => some (.bool (decide (a < b)))
  | .geq => some (.bool (decide (b ≤ a)))
  | _ => none
theorem u8V_int (op : BinOp) (a b : UInt8) (v : Value) (h : u8V op a b = some v) : intV op .u8 (a.toNat : Int) .u8 (b.toNat : Int) = some v := by
  have heq : decide (a = b) = decide ((a.toNat : Int) = (b.toNat : Int)) := by
    rw [decide_eq_decide]
    constructor
    · intro h; rw [h]
    · intro h; exact UInt8.toNat_inj.1 (by omega)
  have hlt : decide (a < b) = decide ((a.toNat : Int) < (b.toNat : Int)) := by
    rw [decide_eq_decide, UInt8.lt_iff_toNat_lt]; omega
  have hle : decide (b ≤ a) = decide ((b.toNat : Int) ≤ (a.toNat : Int)) := by
    rw [decide_eq_decide, UInt8.le_iff_toNat_le]; omega
  unfold u8V at h
  split at h
  all_goals first
    | (cases h; done)
    | (injection h with h; subst h; simp only [intV_and, intV_or, intV_xor, intV_andNot, bits_u8]; rfl)
    | (injection h with h; subst h; simp only [intV_eql, intV_neq, intV_lss, intV_geq, heq, hlt, hle])
theorem RB_u8_of (op : BinOp) (t : TypeId) (x y : Operand) (a b : UInt8) (v : Value) (hv : u8V op a b = some v) : RB P op t x y (byte a) (byte b) κ f h Q = RV P κ v f h Q := by
  unfold byte
  rw [RB_int, u8V_int op a b v hv, RVo_some]
theorem RB_u8_and (t : TypeId) (x y : Operand) (a b : UInt8) : RB P .and t x y (byte a) (byte b) κ f h Q = RV P κ (byte (a &&& b)) f h Q := RB_u8_of P κ f h Q _ t x y a b _ rfl
theorem RB_u8_or (t : TypeId) (x y : Operand) (a b : UInt8) : RB P .or t x y (byte a) (byte b) κ f h Q = RV P κ (byte (a ||| b)) f h Q := RB_u8_of P κ f h Q _ t x y a b _ rfl
theorem RB_u8_xor (t : TypeId) (x y : Operand) (a b : UInt8) : RB P .xor t x y (byte a) (byte b) κ f h Q = RV P κ (byte (a ^^^ b)) f h Q := RB_u8_of P κ f h Q _ t x y a b _ rfl
theorem RB_u8_andNot (t : TypeId) (x y : Operand) (a b : UInt8) : RB P .andNot t x y (byte a) (byte b) κ f h Q = RV P κ (byte (a &&& ~~~b)) f h Q := RB_u8_of P κ f h Q _ t x y a b _ rfl
theorem RB_u8_eql (t : TypeId) (x y : Operand) (a b : UInt8) : RB P .eql t x y (byte a) (byte b) κ f h Q = RV P κ (.bool (decide (a = b))) f h Q := RB_u8_of P κ f h Q _ t x y a b _ rfl
theorem RB_u8_neq (t : TypeId) (x y : Operand) (a b : UInt8) : RB P .neq t x y (byte a) (byte b) κ f h Q = RV P κ (.bool (!decide (a = b))) f h Q := RB_u8_of P κ f h Q _ t x y a b _ rfl
theorem RB_u8_lss (t : TypeId) (x y : Operand) (a b : UInt8) : RB P .lss t x y (byte a) (byte b) κ f h Q = RV P κ (.bool (decide (a < b))) f h Q := RB_u8_of P κ f h Q _ t x y a b _ rfl
theorem RB_u8_geq (t : TypeId) (x y : Operand) (a b : UInt8) : RB P .geq t x y (byte a) (byte b) κ f h Q = RV P κ (.bool (decide (b ≤ a))) f h Q := RB_u8_of P κ f h Q _ t x y a b _ rfl
def cvU8 (k : IntKind) (a : UInt8) : Value :=
  match k with
  | .u8 => byte a
  | .u32 => u32 (a.toBitVec.setWidth 32)
  | .i64 => .int .i64 (a.toNat : Int)
  | .u64 => .int .u64 (a.toNat : Int)
  | k => .int k (k.wrap (a.toNat : Int))
theorem cvU8_eq (k : IntKind) (a : UInt8) : Value.int k (k.wrap (a.toNat : Int)) = cvU8 k a := by
  have hb := a.toNat_lt
  unfold cvU8
  split
  · rw [wrap8 _ (by omega) (by omega)]; rfl
  · unfold u32
    rw [wrap32 _ (by omega) (by omega)]
    have : ((a.toBitVec.setWidth 32).toNat : Int) = (a.toNat : Int) := by
      rw [BitVec.toNat_setWidth]
      have : a.toBitVec.toNat = a.toNat := rfl
      omega
    rw [this]
  · rw [wrap64 _ (by omega) (by omega)]
  · rw [wrapu64 _ (by omega) (by omega)]
  · rfl
theorem RConv_u8 (s d : TypeId) (a : UInt8) : RConv P s d (byte a) κ f h Q = RVo P ((kd P s).bind fun _ => (kd P d).bind fun k => (ikd k).map fun k => cvU8 k a) κ f h Q := by
  unfold byte
  rw [RConv_int]
  simp only [cvU8_eq]
theorem cvU8_u8 (a : UInt8) : cvU8 .u8 a = byte a := rfl
theorem cvU8_u32 (a : UInt8) : cvU8 .u32 a = u32 (a.toBitVec.setWidth 32) := rfl
theorem cvU8_i64 (a : UInt8) : cvU8 .i64 a = .int .i64 (a.toNat : Int) := rfl
theorem cvU8_u64 (a : UInt8) : cvU8 .u64 a = .int .u64 (a.toNat : Int) := rfl
theorem addrV_arr_byte (len e z : Nat) (c : Bool) (b o : Nat) (a : UInt8) (h1 : 256 ≤ len) : addrV (.arr len e z c) (.pointer (some ⟨b, o, none⟩)) (byte a) = some (.pointer (some ⟨b, o + a.toNat * z, none⟩)) := by
  have hb := a.toNat_lt
  unfold byte
  rw [addrV_arr _ _ _ _ _ _ _ _ (by omega) (by omega)]
  simp
theorem cells_u32 (a : BitVec 32) : cel (u32 a) = #[u32 a] := rfl
theorem one_u32 (a : BitVec 32) : one (u32 a) = true := rfl
end

-- so many values, by a function
def vals (n : Nat) (g : Nat → Value) : List Value := (List.range n).map g
theorem vals_len (n : Nat) (g : Nat → Value) : (vals n g).length = n := by simp [vals]
theorem vals_get (n : Nat) (g : Nat → Value) (i : Nat) (h : i < n) : (vals n g)[i]? = some (g i) := by simp [vals, h]
theorem vals_out (n : Nat) (g : Nat → Value) (i : Nat) (h : n ≤ i) : (vals n g)[i]? = none := by rw [List.getElem?_eq_none]; rw [vals_len]; exact h
theorem vals_ext (n : Nat) (g : Nat → Value) (l : List Value) (h : l.length = n) (hg : ∀ i, i < n → l[i]? = some (g i)) : l = vals n g := by
  apply List.ext_getElem?
  intro i
  by_cases hi : i < n
  · rw [hg i hi, vals_get n g i hi]
  · rw [vals_out n g i (by omega), List.getElem?_eq_none (by omega)]
theorem vals_set (n : Nat) (g g' : Nat → Value) (k : Nat) (v : Value) (hk : g' k = v) (hne : ∀ i, i ≠ k → g' i = g i) : (vals n g).set k v = vals n g' := by
  apply vals_ext
  · rw [List.length_set, vals_len]
  · intro i hi
    rw [List.getElem?_set, vals_len, vals_get n g i hi]
    by_cases h : k = i
    · subst h; rw [if_pos rfl, if_pos hi, hk]
    · rw [if_neg h, hne i (Ne.symm h)]
theorem vals_congr (n : Nat) (g g' : Nat → Value) (h : ∀ i, i < n → g i = g' i) : vals n g = vals n g' :=
  vals_ext n g' _ (vals_len n g) fun i hi => by rw [vals_get n g i hi, h i hi]
theorem vals_replicate (n : Nat) (v : Value) : Array.replicate n v = (vals n fun _ => v).toArray := by
  apply Array.ext'
  show _ = vals n _
  rw [Array.toList_replicate]
  apply vals_ext
  · rw [List.length_replicate]
  · intro i hi; rw [List.getElem?_replicate, if_pos hi]
theorem vals_mem (n : Nat) (g : Nat → Value) (v : Value) (h : v ∈ vals n g) : ∃ i, i < n ∧ v = g i := by
  obtain ⟨i, hi, rfl⟩ := List.mem_map.1 h
  exact ⟨i, by simpa using hi, rfl⟩
attribute [irreducible] vals

-- a whole row stored at once
theorem hsetN_ne {b o g : Nat} {t : TypeId} {cs : Array Value} (hne : b ≠ g) : ∀ (vs : List Value) (i : Nat) (h : List Res), hsetN ⟨b, o, none⟩ vs i (.cells g t cs :: h) = (hsetN ⟨b, o, none⟩ vs i h).map (.cells g t cs :: ·)
  | [], i, h => rfl
  | v :: vs, i, h => by
    have ha : ∀ j, Addr.add ⟨b, o, none⟩ j = ⟨b, o + j, none⟩ := by intro j; unfold Addr.add; split <;> simp_all
    simp only [hsetN, ha]
    split
    · rw [hset_ne _ _ _ _ _ _ _ _ hne]
      cases hset ⟨b, o + i, none⟩ v h with
      | none => rfl
      | some h' => exact hsetN_ne hne vs (i + 1) h'
    · rfl
theorem hsetN_all {g : Nat} {t : TypeId} : ∀ (vs : List Value) (i : Nat) (cs : Array Value) (h : List Res), (∀ v ∈ vs, v.oneCell' = true) → i + vs.length = cs.size →
    hsetN ⟨g, 0, none⟩ vs i (.cells g t cs :: h) = some (.cells g t (cs.toList.take i ++ vs).toArray :: h)
  | [], i, cs, h, _, hs => by
    simp only [hsetN, Option.some.injEq, List.cons.injEq, Res.cells.injEq, true_and, and_true, List.append_nil]
    rw [List.take_of_length_le (by simp at hs ⊢; omega)]
  | v :: vs, i, cs, h, ho, hs => by
    have ha : ∀ j, Addr.add ⟨g, 0, none⟩ j = ⟨g, j, none⟩ := by intro j; unfold Addr.add; split <;> simp_all
    simp only [List.length_cons] at hs
    have hi : i < cs.size := by omega
    simp only [hsetN, ha, ho v (List.mem_cons_self ..), if_true, hset_same _ _ _ _ _ _, if_pos hi, Option.bind_some]
    rw [hsetN_all vs (i + 1) _ h (fun u hu => ho u (List.mem_cons_of_mem _ hu)) (by simp; omega)]
    congr 3
    apply congrArg
    simp only [Array.toList_setIfInBounds]
    rw [List.take_set, List.take_add_one]
    have hm : min i cs.size = i := by omega
    simp [hi, hm]
attribute [go_sem] u32_0 u32_1 u32_2 u32_256 u32_65535 u32_65536 u32_3988292384 u8_0 u8_1 u8_2 u8_8 u8_127 u8_128 RB_u32_and RB_u32_or RB_u32_xor RB_u32_eql RB_u32_neq RB_u32_rem2 RB_u32_rem256 RB_u32_rem65536 RB_u32_quo2 RB_u32_quo256 RB_u32_shr pure_xor_u32 RConv_u32 cvU32_u8 cvU32_u32 cvU32_i64 conv_to_u32 conv_to_u8
  RB_u8_and RB_u8_or RB_u8_xor RB_u8_andNot RB_u8_eql RB_u8_neq RB_u8_lss RB_u8_geq RConv_u8 cvU8_u8 cvU8_u32 cvU8_i64 cvU8_u64 addrV_arr_byte cells_u32 one_u32
attribute [go_sem] BitVec.ofInt_natCast
end H
end Go.Proofs.Ytldidoaagijnhaa
