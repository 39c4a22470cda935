/- Heads of archives, in plain Lean: what is right, their bytes, and back. -/
import Derived.Test.YtlmbebnpnnkhmaaVintP
import Derived.Test.YtlmbebnpnnkhmaaCrcM
import Derived.Tactics
namespace Go.Proofs.Ytlmbebnpnnkhmaa
set_option linter.unusedSimpArgs false
set_option linter.unusedVariables false
namespace Gz
open Vint (fixL numS)
structure Hd where
  time : Int
  extra : List UInt8
  name : List UInt8
  note : List UInt8
  level : Int
  os : Int
  text : Bool
  sum : Bool
  flags : Int
def h0 : Hd := ⟨0, [], [], [], 0, 0, false, false, 0⟩
def has (f b : Nat) : Bool := decide (f / b % 2 = 1)
def bare (s : List UInt8) : Bool := s.all (· != 0)
def okF (f : Int) : Bool := decide (0 ≤ f ∧ f ≤ 28 ∧ f % 4 = 0)
def rng (h : Hd) : Bool := decide ((0 ≤ h.time ∧ h.time ≤ 4294967295) ∧ (0 ≤ h.level ∧ h.level ≤ 255) ∧ (0 ≤ h.os ∧ h.os ≤ 255))
def fits (f b : Nat) (s : List UInt8) : Bool := has f b || decide (s = [])
def fit3 (h : Hd) : Bool := fits h.flags.toNat 4 h.extra && (fits h.flags.toNat 8 h.name && fits h.flags.toNat 16 h.note)
def right (h : Hd) : Bool := (okF h.flags && rng h) && (fit3 h && (decide (h.extra.length ≤ 65535) && (bare h.name && bare h.note)))
def flagB (h : Hd) : Nat := h.flags.toNat + (if h.text then 1 else 0) + (if h.sum then 2 else 0)
def exB (f : Nat) (e : List UInt8) : List UInt8 := if has f 4 then fixL 2 e.length ++ e else []
def zB (f b : Nat) (n : List UInt8) : List UInt8 := if has f b then n ++ [0] else []
def fixB (f t l o : Nat) : List UInt8 := [31, 139, 8] ++ (fixL 1 f ++ (fixL 4 t ++ (fixL 1 l ++ fixL 1 o)))
def body (h : Hd) : List UInt8 := fixB (flagB h) h.time.toNat h.level.toNat h.os.toNat ++ exB h.flags.toNat h.extra ++ zB h.flags.toNat 8 h.name ++ zB h.flags.toNat 16 h.note
def sumOf (s : List UInt8) : Nat := (Crc.of s).toNat % 65536
def sumB (b : Bool) (s : List UInt8) : List UInt8 := if b then fixL 2 (sumOf s) else []
def bytes (h : Hd) : List UInt8 := body h ++ sumB h.sum (body h)
def build (h : Hd) : List UInt8 × Int := if right h = true then (bytes h, 0) else ([], 4)

def takeX (s : List UInt8) (p : Nat) : Option (List UInt8 × Nat) :=
  if p + 2 + numS s p 2 ≤ s.length then some ((s.drop (p + 2)).take (numS s p 2), p + 2 + numS s p 2) else none
def zs (s : List UInt8) (p : Nat) : List UInt8 := (s.drop p).takeWhile (· != 0)
def takeZ (s : List UInt8) (p : Nat) : Option (List UInt8 × Nat) :=
  if p + (zs s p).length < s.length then some (zs s p, p + (zs s p).length + 1) else none
def opt (f b : Nat) (t : List UInt8 → Nat → Option (List UInt8 × Nat)) (s : List UInt8) (p : Nat) : Option (List UInt8 × Nat) := if has f b then t s p else some ([], p)
def flds (s : List UInt8) (f p : Nat) : Option (List UInt8 × List UInt8 × List UInt8 × Nat) :=
  match opt f 4 takeX s p with
  | none => none
  | some (e, p1) => match opt f 8 takeZ s p1 with
    | none => none
    | some (n, p2) => match opt f 16 takeZ s p2 with
      | none => none
      | some (t, p3) => some (e, n, t, p3)
def hdOf (s : List UInt8) (a f : Nat) (e n t : List UInt8) : Hd := ⟨numS s (a + 4) 4, e, n, t, (s.getD (a + 8) 0).toNat, (s.getD (a + 9) 0).toNat, has f 1, has f 2, (f / 4 * 4 : Nat)⟩
def fin (s : List UInt8) (a f : Nat) : Hd × Int × Int :=
  match flds s f (a + 10) with
  | none => (h0, 0, 2)
  | some (e, n, t, p) =>
    if has f 2 then (if p + 2 ≤ s.length then (if numS s p 2 = sumOf ((s.drop a).take (p - a)) then (hdOf s a f e n t, ((p + 2 : Nat) : Int), 0) else (h0, 0, 5)) else (h0, 0, 2))
    else (hdOf s a f e n t, (p : Int), 0)
def parseN (s : List UInt8) (a : Nat) : Hd × Int × Int :=
  if (s.drop a).take 3 ≠ [31, 139, 8] then (h0, 0, 12) else
  if 32 ≤ (s.getD (a + 3) 0).toNat then (h0, 0, 13) else fin s a (s.getD (a + 3) 0).toNat
def parse (s : List UInt8) (at_ : Int) : Hd × Int × Int :=
  if at_ < 0 then (h0, 0, 1) else if (s.length : Int) < at_ ∨ (s.length : Int) - at_ < 10 then (h0, 0, 2) else parseN s at_.toNat

-- bytes of numbers
theorem numS_digit (s : List UInt8) (p : Nat) : ∀ k i, i < k → numS s p k / 256 ^ i % 256 = (s.getD (p + i) 0).toNat
  | k + 1, i, h => by
    have hb : (s.getD (p + k) 0).toNat < 256 := UInt8.toNat_lt _
    show (numS s p k + (s.getD (p + k) 0).toNat * 256 ^ k) / 256 ^ i % 256 = _
    by_cases hik : i = k
    · subst hik
      rw [Nat.add_mul_div_right _ _ (Nat.pow_pos (by decide)), Nat.div_eq_of_lt (Vint.numS_lt s p i), Nat.zero_add, Nat.mod_eq_of_lt hb]
    · have hlt : i < k := by omega
      obtain ⟨d, rfl⟩ : ∃ d, k = i + (d + 1) := ⟨k - i - 1, by omega⟩
      rw [Nat.pow_add, ← Nat.mul_assoc, Nat.mul_right_comm, Nat.add_mul_div_right _ _ (Nat.pow_pos (by decide)), Nat.pow_succ, ← Nat.mul_assoc, Nat.add_mul_mod_self_right]
      exact numS_digit s p (i + (d + 1)) i hlt
theorem fix_num (s : List UInt8) (p k : Nat) (h : p + k ≤ s.length) : fixL k (numS s p k) = (s.drop p).take k := by
  apply List.ext_getElem (by rw [Vint.fixL_len, List.length_take, List.length_drop]; omega)
  intro i h1 h2
  have hi : i < k := by rw [Vint.fixL_len] at h1; exact h1
  have hg := Vint.fixL_get k (numS s p k) i hi
  rw [numS_digit s p k i hi, List.getElem?_eq_getElem h1] at hg
  rw [Option.some.inj hg, List.getElem_take, List.getElem_drop, List.getD_eq_getElem?_getD, List.getElem?_eq_getElem (by omega)]
  simp
theorem numS_one (s : List UInt8) (p : Nat) : numS s p 1 = (s.getD p 0).toNat := by simp [numS]
theorem fix1_num (s : List UInt8) (p : Nat) (h : p + 1 ≤ s.length) : fixL 1 (s.getD p 0).toNat = (s.drop p).take 1 := by rw [← numS_one]; exact fix_num s p 1 h
theorem take_add' (s : List UInt8) (p k : Nat) : s.take (p + k) = s.take p ++ (s.drop p).take k := by
  rw [List.take_add]

-- reading, and what was read
theorem takeX_some {s : List UInt8} {p : Nat} {e : List UInt8} {q : Nat} (h : takeX s p = some (e, q)) : e.length ≤ 65535 ∧ p ≤ q ∧ q ≤ s.length ∧ s.take q = s.take p ++ (fixL 2 e.length ++ e) := by
  unfold takeX at h
  split at h
  · rename_i hl
    injection h with h
    injection h with h1 h2
    subst h1 h2
    have hn := Vint.numS_lt s p 2
    have hel : ((s.drop (p + 2)).take (numS s p 2)).length = numS s p 2 := by rw [List.length_take, List.length_drop]; omega
    refine ⟨by rw [hel]; omega, by omega, by omega, ?_⟩
    rw [hel, take_add', take_add' s p 2, fix_num s p 2 (by omega), List.append_assoc]
  · cases h
theorem zs_bare (s : List UInt8) (p : Nat) : bare (zs s p) = true := by
  unfold zs bare
  generalize s.drop p = l
  induction l with
  | nil => rfl
  | cons a l ih =>
    rw [List.takeWhile_cons]
    split
    · rename_i h; rw [List.all_cons, h, ih]; rfl
    · rfl
theorem zs_split (l : List UInt8) : (l.takeWhile (· != 0)).length < l.length → l.take ((l.takeWhile (· != 0)).length + 1) = l.takeWhile (· != 0) ++ [0] := by
  induction l with
  | nil => intro h; simp at h
  | cons a l ih =>
    intro h
    rw [List.takeWhile_cons] at h ⊢
    split
    · rename_i ha
      rw [if_pos ha] at h
      simp only [List.length_cons] at h
      simp only [List.length_cons, List.take_succ_cons, List.cons_append, ih (by omega)]
    · rename_i ha
      simp only [List.length_nil, List.take_succ_cons, List.take_zero, List.nil_append]
      simp at ha
      rw [ha]
theorem takeZ_some {s : List UInt8} {p : Nat} {z : List UInt8} {q : Nat} (hp : p ≤ s.length) (h : takeZ s p = some (z, q)) : bare z = true ∧ p ≤ q ∧ q ≤ s.length ∧ s.take q = s.take p ++ (z ++ [0]) := by
  unfold takeZ at h
  split at h
  · rename_i hl
    injection h with h
    injection h with h1 h2
    subst h1 h2
    refine ⟨zs_bare s p, by omega, by omega, ?_⟩
    rw [Nat.add_assoc, take_add']
    have := zs_split (s.drop p) (by rw [List.length_drop]; unfold zs at hl; omega)
    unfold zs
    rw [this]
  · cases h
theorem optX_some {s : List UInt8} {f p : Nat} {e : List UInt8} {q : Nat} (hp : p ≤ s.length) (h : opt f 4 takeX s p = some (e, q)) : fits f 4 e = true ∧ e.length ≤ 65535 ∧ p ≤ q ∧ q ≤ s.length ∧ s.take q = s.take p ++ exB f e := by
  unfold opt at h
  unfold fits exB
  split at h
  · rename_i hf
    obtain ⟨h1, h2, h3, h4⟩ := takeX_some h
    rw [hf, if_pos rfl]
    exact ⟨rfl, h1, h2, h3, h4⟩
  · rename_i hf
    injection h with h
    injection h with h1 h2
    subst h1 h2
    rw [if_neg hf]
    exact ⟨by simp, by simp, Nat.le_refl _, hp, by simp⟩
theorem optZ_some {s : List UInt8} {f b p : Nat} {z : List UInt8} {q : Nat} (hp : p ≤ s.length) (h : opt f b takeZ s p = some (z, q)) : fits f b z = true ∧ bare z = true ∧ p ≤ q ∧ q ≤ s.length ∧ s.take q = s.take p ++ zB f b z := by
  unfold opt at h
  unfold fits zB
  split at h
  · rename_i hf
    obtain ⟨h1, h2, h3, h4⟩ := takeZ_some hp h
    rw [hf, if_pos rfl]
    exact ⟨rfl, h1, h2, h3, h4⟩
  · rename_i hf
    injection h with h
    injection h with h1 h2
    subst h1 h2
    rw [if_neg hf]
    exact ⟨by simp, rfl, Nat.le_refl _, hp, by simp⟩
theorem flds_some {s : List UInt8} {f p : Nat} {e n t : List UInt8} {q : Nat} (hp : p ≤ s.length) (h : flds s f p = some (e, n, t, q)) :
    (fits f 4 e = true ∧ fits f 8 n = true ∧ fits f 16 t = true) ∧ (e.length ≤ 65535 ∧ bare n = true ∧ bare t = true) ∧ p ≤ q ∧ q ≤ s.length ∧ s.take q = s.take p ++ exB f e ++ zB f 8 n ++ zB f 16 t := by
  unfold flds at h
  split at h
  · cases h
  rename_i e' p1 h1
  split at h
  · cases h
  rename_i n' p2 h2
  split at h
  · cases h
  rename_i t' p3 h3
  simp only [Option.some.injEq, Prod.mk.injEq] at h
  obtain ⟨rfl, rfl, rfl, rfl⟩ := h
  obtain ⟨a1, a2, a3, a4, a5⟩ := optX_some hp h1
  obtain ⟨b1, b2, b3, b4, b5⟩ := optZ_some a4 h2
  obtain ⟨c1, c2, c3, c4, c5⟩ := optZ_some b4 h3
  exact ⟨⟨a1, b1, c1⟩, ⟨a2, b2, c2⟩, by omega, c4, by rw [c5, b5, a5]⟩

-- flags
theorem has_low {f : Nat} (hf : f < 32) : has (f / 4 * 4) 4 = has f 4 ∧ has (f / 4 * 4) 8 = has f 8 ∧ has (f / 4 * 4) 16 = has f 16 := by
  have : ∀ f : Nat, f < 32 → has (f / 4 * 4) 4 = has f 4 ∧ has (f / 4 * 4) 8 = has f 8 ∧ has (f / 4 * 4) 16 = has f 16 := by decide
  exact this f hf
theorem flag_parts {f : Nat} (hf : f < 32) : f / 4 * 4 + (if has f 1 = true then 1 else 0) + (if has f 2 = true then 2 else 0) = f := by
  have : ∀ f : Nat, f < 32 → f / 4 * 4 + (if has f 1 = true then 1 else 0) + (if has f 2 = true then 2 else 0) = f := by decide
  exact this f hf
theorem okF_low {f : Nat} (hf : f < 32) : okF ((f / 4 * 4 : Nat) : Int) = true := by
  have : ∀ f : Nat, f < 32 → okF ((f / 4 * 4 : Nat) : Int) = true := by decide
  exact this f hf

theorem parse_err {s : List UInt8} {a : Int} (h : (parse s a).2.2 ≠ 0) : (parse s a).1 = h0 ∧ (parse s a).2.1 = 0 := by
  unfold parse at h ⊢
  split
  · exact ⟨rfl, rfl⟩
  rename_i h1
  rw [if_neg h1] at h
  split
  · exact ⟨rfl, rfl⟩
  rename_i h2
  rw [if_neg h2] at h
  unfold parseN at h ⊢
  split
  · exact ⟨rfl, rfl⟩
  rename_i h3
  rw [if_neg h3] at h
  split
  · exact ⟨rfl, rfl⟩
  rename_i h4
  rw [if_neg h4] at h
  unfold fin at h ⊢
  split
  · exact ⟨rfl, rfl⟩
  rename_i e n t p h5
  rw [h5] at h
  simp only at h
  split
  · rename_i h6
    rw [if_pos h6] at h
    split
    · rename_i h7
      rw [if_pos h7] at h
      split
      · rename_i h8; rw [if_pos h8] at h; exact absurd rfl h
      · exact ⟨rfl, rfl⟩
    · exact ⟨rfl, rfl⟩
  · rename_i h6; rw [if_neg h6] at h; exact absurd rfl h

/-- What is read at the beginning is right, and is laid down in just these bytes. -/
theorem parse_only {s : List UInt8} (h : (parse s 0).2.2 = 0) : ∃ (hd : Hd) (to : Nat), parse s 0 = (hd, (to : Int), 0) ∧ right hd = true ∧ bytes hd = s.take to ∧ 10 ≤ to ∧ to ≤ s.length := by
  unfold parse at h ⊢
  rw [if_neg (by omega)] at h ⊢
  split at h
  · exact absurd h (by decide)
  rename_i hlen
  rw [if_neg hlen]
  have hl : 10 ≤ s.length := by omega
  simp only [Int.toNat_zero] at h ⊢
  unfold parseN at h ⊢
  split at h
  · exact absurd h (by decide)
  rename_i hm
  rw [if_neg hm]
  have hm' : s.take 3 = [31, 139, 8] := by simpa using hm
  split at h
  · exact absurd h (by decide)
  rename_i hf
  rw [if_neg hf]
  simp only [Nat.zero_add] at h hf ⊢
  generalize hF : (s.getD 3 0).toNat = f at h hf ⊢
  have hf' : f < 32 := by omega
  unfold fin at h ⊢
  split at h
  · exact absurd h (by decide)
  rename_i e n t p hp
  simp only [Nat.zero_add] at hp
  obtain ⟨⟨a1, a2, a3⟩, ⟨a4, a5, a6⟩, a7, a8, a9⟩ := flds_some hl hp
  have hn4 := Vint.numS_lt s 4 4
  have hl8 : (s.getD 8 0).toNat < 256 := UInt8.toNat_lt _
  have hl9 : (s.getD 9 0).toNat < 256 := UInt8.toNat_lt _
  obtain ⟨e4, e8, e16⟩ := has_low hf'
  have hright : right (hdOf s 0 f e n t) = true := by
    have k1 : rng (hdOf s 0 f e n t) = true := by
      unfold rng hdOf
      simp only [Nat.zero_add, decide_eq_true_eq]
      omega
    have k2 : fit3 (hdOf s 0 f e n t) = true := by
      unfold fit3 hdOf fits at *
      simp only [Int.toNat_natCast, e4, e8, e16, a1, a2, a3, Bool.and_self]
    unfold right
    rw [k1, k2]
    unfold hdOf
    simp only [okF_low hf', a5, a6, decide_eq_true a4, Bool.and_self]
  have hfix : fixB f (numS s 4 4) (s.getD 8 0).toNat (s.getD 9 0).toNat = s.take 10 := by
    unfold fixB
    rw [show (10 : Nat) = 3 + 1 + 4 + 1 + 1 from rfl, take_add', take_add', take_add', take_add', hm', ← hF, fix1_num s 3 (by omega), fix_num s 4 4 (by omega), fix1_num s 8 (by omega), fix1_num s 9 (by omega)]
    simp only [List.append_assoc]
  have hbody : body (hdOf s 0 f e n t) = s.take p := by
    unfold body flagB
    have : (hdOf s 0 f e n t).flags.toNat = f / 4 * 4 := Int.toNat_natCast _
    rw [this]
    unfold hdOf exB zB
    simp only [Nat.zero_add, Int.toNat_natCast, flag_parts hf', e4, e8, e16]
    rw [hfix, a9]
    rfl
  have hsum : (hdOf s 0 f e n t).sum = has f 2 := rfl
  unfold bytes
  by_cases h2 : has f 2 = true
  · rw [if_pos h2] at h ⊢
    split at h
    · rename_i h3
      rw [if_pos h3]
      split at h
      · rename_i h4
        rw [if_pos h4]
        refine ⟨_, p + 2, rfl, hright, ?_, by omega, h3⟩
        rw [hbody, hsum, h2]
        unfold sumB
        rw [if_pos rfl, take_add']
        simp only [List.drop_zero, Nat.sub_zero] at h4
        rw [← h4, fix_num s p 2 h3]
      · exact absurd h (by decide)
    · exact absurd h (by decide)
  · rw [if_neg h2]
    refine ⟨_, p, rfl, hright, ?_, by omega, a8⟩
    rw [hbody, hsum]
    unfold sumB
    rw [if_neg h2, List.append_nil]
end Gz
end Go.Proofs.Ytlmbebnpnnkhmaa
