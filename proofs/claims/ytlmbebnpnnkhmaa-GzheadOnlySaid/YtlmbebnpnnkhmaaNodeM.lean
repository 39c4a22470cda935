/- node, as plain law. -/
import Derived.Test.YtlmbebnpnnkhmaaTokM
import Derived.Test.YtlmbebnpnnkhmaaVintP
namespace Go.Proofs.Ytlmbebnpnnkhmaa
set_option linter.unusedSimpArgs false
set_option linter.unusedVariables false
namespace Nd
open H
abbrev Tk := Tok.Tk
structure N where
  leaf : Bool
  toks : List Tk
  kids : List Tk
  deriving DecidableEq
def btw (n lo hi : Int) : Bool := decide (lo ≤ n ∧ n ≤ hi)
def okT (t : Tk) : Bool := btw t.1 0 4294967295 && (btw t.2.1 1 4096 && btw t.2.2 (-1) 31)
def okK (t : Tk) : Bool := btw t.1 1 65535 && (btw t.2.1 1 4294967295 && btw t.2.2 0 4294967295)
/-- Things that are right, whose numbers rise. -/
def up (ok : Tk → Bool) (f : Tk → Int) : Int → List Tk → Bool
  | _, [] => true
  | last, t :: l => (ok t && decide (last < f t)) && up ok f (f t) l
def upT (l : List Tk) : Bool := up okT (fun t => t.1) (-1) l
def upK (l : List Tk) : Bool := up okK (fun t => t.2.2) (-1) l
def sizes (n : N) : Bool := if n.leaf then decide (n.kids.length = 0) && decide (n.toks.length ≤ 35) else decide (n.toks.length = 0) && btw n.kids.length 1 20
def right (n : N) : Bool := upT n.toks && (upK n.kids && sizes n)
theorem up_mem {ok : Tk → Bool} {f : Tk → Int} : ∀ {l : List Tk} {last : Int}, up ok f last l = true → ∀ t ∈ l, ok t = true
  | t :: l, last, h, u, hu => by
    rw [up, Bool.and_eq_true, Bool.and_eq_true] at h
    rcases List.mem_cons.1 hu with rfl | hm
    · exact h.1.1
    · exact up_mem h.2 u hm
theorem btw_iff {n lo hi : Int} : btw n lo hi = true ↔ lo ≤ n ∧ n ≤ hi := by simp [btw]
theorem okT_iff {t : Tk} : okT t = true ↔ (0 ≤ t.1 ∧ t.1 ≤ 4294967295) ∧ (1 ≤ t.2.1 ∧ t.2.1 ≤ 4096) ∧ (-1 ≤ t.2.2 ∧ t.2.2 ≤ 31) := by
  unfold okT; rw [Bool.and_eq_true, Bool.and_eq_true, btw_iff, btw_iff, btw_iff]
theorem okK_iff {t : Tk} : okK t = true ↔ (1 ≤ t.1 ∧ t.1 ≤ 65535) ∧ (1 ≤ t.2.1 ∧ t.2.1 ≤ 4294967295) ∧ (0 ≤ t.2.2 ∧ t.2.2 ≤ 4294967295) := by
  unfold okK; rw [Bool.and_eq_true, Bool.and_eq_true, btw_iff, btw_iff, btw_iff]
/-- A step through a list, by numbers. -/
theorem up_step {ok : Tk → Bool} {f : Tk → Int} {l : List Tk} {i : Nat} (h : i < l.length) (last : Int) : up ok f last (l.drop i) = ((ok (l.getD i Tok.tk0) && decide (last < f (l.getD i Tok.tk0))) && up ok f (f (l.getD i Tok.tk0)) (l.drop (i + 1))) := by
  rw [Tok.drop_cons h, up]
def nb (n w : Int) : List UInt8 := (Vint.fixed n w).1
def tB (t : Tk) : List UInt8 := nb t.1 4 ++ nb t.2.1 2 ++ nb (t.2.2 + 1) 1
def kB (t : Tk) : List UInt8 := nb t.1 4 ++ nb t.2.1 4 ++ nb t.2.2 4
def hd (n : N) : List UInt8 := nb (if n.leaf then 1 else 2) 1 ++ nb ((n.toks.length : Int) + (n.kids.length : Int)) 1
def body (n : N) : List UInt8 := hd n ++ n.toks.flatMap tB ++ n.kids.flatMap kB
def bytes (n : N) : List UInt8 := body n ++ List.replicate (252 - (body n).length) 0
def build (n : N) : List UInt8 × Int := if right n = true then (bytes n, 0) else ([], 4)
theorem nb_fix (n : Int) (k : Nat) (hk : k = 1 ∨ k = 2 ∨ k = 4) (h0 : 0 ≤ n) (h1 : n < 256 ^ k) : nb n (k : Int) = Vint.fixL k n.toNat := by
  unfold nb Vint.fixed
  have hw : Vint.wide (k : Int) := by unfold Vint.wide; omega
  have hz : n.toNat / 256 ^ ((k : Int).toNat) = 0 := by
    rw [Int.toNat_natCast, Nat.div_eq_zero_iff]
    right
    have : ((n.toNat : Nat) : Int) < ((256 ^ k : Nat) : Int) := by rw [Int.natCast_pow, Int.toNat_of_nonneg h0]; exact h1
    exact Int.ofNat_lt.1 this
  rw [if_neg (by intro h; rcases h with h | h; exact h hw; omega), if_pos hz, Int.toNat_natCast]
theorem nb1 {n : Int} (h0 : 0 ≤ n) (h1 : n < 256) : nb n 1 = Vint.fixL 1 n.toNat := nb_fix n 1 (.inl rfl) h0 h1
theorem nb2 {n : Int} (h0 : 0 ≤ n) (h1 : n < 65536) : nb n 2 = Vint.fixL 2 n.toNat := nb_fix n 2 (.inr (.inl rfl)) h0 h1
theorem nb4 {n : Int} (h0 : 0 ≤ n) (h1 : n < 4294967296) : nb n 4 = Vint.fixL 4 n.toNat := nb_fix n 4 (.inr (.inr rfl)) h0 h1
theorem tB_eq {t : Tk} (h : okT t = true) : tB t = Vint.fixL 4 t.1.toNat ++ Vint.fixL 2 t.2.1.toNat ++ Vint.fixL 1 (t.2.2 + 1).toNat := by
  obtain ⟨h1, h2, h3⟩ := okT_iff.1 h
  unfold tB
  rw [nb4 (by omega) (by omega), nb2 (by omega) (by omega), nb1 (by omega) (by omega)]
theorem kB_eq {t : Tk} (h : okK t = true) : kB t = Vint.fixL 4 t.1.toNat ++ Vint.fixL 4 t.2.1.toNat ++ Vint.fixL 4 t.2.2.toNat := by
  obtain ⟨h1, h2, h3⟩ := okK_iff.1 h
  unfold kB
  rw [nb4 (by omega) (by omega), nb4 (by omega) (by omega), nb4 (by omega) (by omega)]
theorem tB_len {t : Tk} (h : okT t = true) : (tB t).length = 7 := by rw [tB_eq h]; simp [Vint.fixL_len]
theorem kB_len {t : Tk} (h : okK t = true) : (kB t).length = 12 := by rw [kB_eq h]; simp [Vint.fixL_len]
theorem flat_len {g : Tk → List UInt8} {k : Nat} : ∀ (l : List Tk), (∀ t ∈ l, (g t).length = k) → (l.flatMap g).length = k * l.length
  | [], _ => by simp
  | t :: l, h => by
    rw [List.flatMap_cons, List.length_append, flat_len l (fun u hu => h u (by simp [hu])), h t (by simp), List.length_cons, Nat.mul_succ, Nat.add_comm]
theorem right_iff {n : N} : right n = true ↔ upT n.toks = true ∧ upK n.kids = true ∧ sizes n = true := by unfold right; rw [Bool.and_eq_true, Bool.and_eq_true]
theorem sizes_le {n : N} (h : sizes n = true) : (n.leaf = true ∧ n.kids = [] ∧ n.toks.length ≤ 35) ∨ (n.leaf = false ∧ n.toks = [] ∧ 1 ≤ n.kids.length ∧ n.kids.length ≤ 20) := by
  unfold sizes at h
  cases hl : n.leaf with
  | true =>
    rw [hl, if_pos rfl, Bool.and_eq_true, decide_eq_true_eq, decide_eq_true_eq] at h
    exact .inl ⟨rfl, List.eq_nil_of_length_eq_zero h.1, h.2⟩
  | false =>
    rw [hl, if_neg (by simp), Bool.and_eq_true, decide_eq_true_eq, btw_iff] at h
    exact .inr ⟨rfl, List.eq_nil_of_length_eq_zero h.1, by omega, by omega⟩
theorem hd_len {n : N} (h : sizes n = true) : (hd n).length = 2 := by
  unfold hd
  have hb : (n.toks.length : Int) + (n.kids.length : Int) < 256 := by
    rcases sizes_le h with ⟨_, h1, h2⟩ | ⟨_, h1, h2⟩
    · rw [h1]; simp; omega
    · rw [h1]; simp; omega
  have h2 : (0 : Int) ≤ (if n.leaf = true then 1 else 2) ∧ (if n.leaf = true then (1 : Int) else 2) < 256 := by split <;> omega
  rw [nb1 h2.1 h2.2, nb1 (by omega) hb]
  simp [Vint.fixL_len]
theorem body_len {n : N} (h : right n = true) : (body n).length = 2 + 7 * n.toks.length + 12 * n.kids.length := by
  obtain ⟨h1, h2, h3⟩ := right_iff.1 h
  unfold body
  rw [List.length_append, List.length_append, hd_len h3, flat_len _ (fun t ht => tB_len (up_mem h1 t ht)), flat_len _ (fun t ht => kB_len (up_mem h2 t ht))]
theorem body_le {n : N} (h : right n = true) : (body n).length ≤ 247 := by
  rw [body_len h]
  rcases sizes_le (right_iff.1 h).2.2 with ⟨_, h1, h2⟩ | ⟨_, h1, h2⟩
  · rw [h1]; simp; omega
  · rw [h1]; simp; omega
theorem bytes_len {n : N} (h : right n = true) : (bytes n).length = 252 := by
  have := body_le h
  unfold bytes
  rw [List.length_append, List.length_replicate]; omega
/-- A number at a place; -1 if it is not there. -/
def nm (s : List UInt8) (at_ w : Int) : Int := if (Vint.number s at_ w).2 = 0 then (Vint.number s at_ w).1 else -1
def tAt (s : List UInt8) (i : Nat) : Tk := (nm s (2 + 7 * (i : Int)) 4, nm s (2 + 7 * (i : Int) + 4) 2, nm s (2 + 7 * (i : Int) + 4 + 2) 1 - 1)
def kAt (s : List UInt8) (i : Nat) : Tk := (nm s (2 + 12 * (i : Int)) 4, nm s (2 + 12 * (i : Int) + 4) 4, nm s (2 + 12 * (i : Int) + 4 + 4) 4)
def cnt (s : List UInt8) : Nat := (s.getD 1 0).toNat
def isLeaf (s : List UInt8) : Bool := decide (s.getD 0 0 = 1)
def unp (s : List UInt8) : N := ⟨isLeaf s, if isLeaf s then (List.range (cnt s)).map (tAt s) else [], if isLeaf s then [] else (List.range (cnt s)).map (kAt s)⟩
def n0 : N := ⟨false, [], []⟩
def parse (s : List UInt8) : N × Int := if s.length ≠ 252 then (n0, 2) else if build (unp s) = (s, 0) then (unp s, 0) else (n0, 4)
theorem nm_back (a c : List UInt8) (d m : Nat) (hd : d = 1 ∨ d = 2 ∨ d = 4) (hm : m / 256 ^ d = 0) (h63 : m < 9223372036854775808) : nm (a ++ Vint.fixL d m ++ c) (a.length : Int) (d : Int) = (m : Int) := by
  unfold nm
  rw [Vint.number_back a c d m (by unfold Vint.wide; omega) hm h63]; rfl
theorem flat_split {g : Tk → List UInt8} (l : List Tk) (i : Nat) (h : i < l.length) : l.flatMap g = (l.take i).flatMap g ++ (g (l.getD i Tok.tk0) ++ (l.drop (i + 1)).flatMap g) := by
  have h1 : l = l.take i ++ (l.getD i Tok.tk0 :: l.drop (i + 1)) := by rw [← Tok.drop_cons h, List.take_append_drop]
  have h2 := congrArg (List.flatMap g) h1
  rw [List.flatMap_append, List.flatMap_cons] at h2
  exact h2
theorem three_back (a c : List UInt8) (x y z d1 d2 d3 : Nat) (h1 : d1 = 1 ∨ d1 = 2 ∨ d1 = 4) (h2 : d2 = 1 ∨ d2 = 2 ∨ d2 = 4) (h3 : d3 = 1 ∨ d3 = 2 ∨ d3 = 4) (hx : x / 256 ^ d1 = 0) (hy : y / 256 ^ d2 = 0) (hz : z / 256 ^ d3 = 0) (x63 : x < 9223372036854775808) (y63 : y < 9223372036854775808) (z63 : z < 9223372036854775808) (s : List UInt8) (hs : s = a ++ (Vint.fixL d1 x ++ Vint.fixL d2 y ++ Vint.fixL d3 z ++ c)) :
    nm s (a.length : Int) (d1 : Int) = (x : Int) ∧ nm s ((a.length : Int) + (d1 : Int)) (d2 : Int) = (y : Int) ∧ nm s ((a.length : Int) + (d1 : Int) + (d2 : Int)) (d3 : Int) = (z : Int) := by
  subst hs
  have e1 : (a.length : Int) + (d1 : Int) = ((a ++ Vint.fixL d1 x).length : Int) := by rw [List.length_append, Vint.fixL_len]; omega
  have e2 : (a.length : Int) + (d1 : Int) + (d2 : Int) = ((a ++ Vint.fixL d1 x ++ Vint.fixL d2 y).length : Int) := by rw [List.length_append, List.length_append, Vint.fixL_len, Vint.fixL_len]; omega
  refine ⟨?_, ?_, ?_⟩
  · have := nm_back a (Vint.fixL d2 y ++ Vint.fixL d3 z ++ c) d1 x h1 hx x63
    rwa [show a ++ Vint.fixL d1 x ++ (Vint.fixL d2 y ++ Vint.fixL d3 z ++ c) = a ++ (Vint.fixL d1 x ++ Vint.fixL d2 y ++ Vint.fixL d3 z ++ c) by simp] at this
  · rw [e1]
    have := nm_back (a ++ Vint.fixL d1 x) (Vint.fixL d3 z ++ c) d2 y h2 hy y63
    rwa [show a ++ Vint.fixL d1 x ++ Vint.fixL d2 y ++ (Vint.fixL d3 z ++ c) = a ++ (Vint.fixL d1 x ++ Vint.fixL d2 y ++ Vint.fixL d3 z ++ c) by simp] at this
  · rw [e2]
    have := nm_back (a ++ Vint.fixL d1 x ++ Vint.fixL d2 y) c d3 z h3 hz z63
    rwa [show a ++ Vint.fixL d1 x ++ Vint.fixL d2 y ++ Vint.fixL d3 z ++ c = a ++ (Vint.fixL d1 x ++ Vint.fixL d2 y ++ Vint.fixL d3 z ++ c) by simp] at this
theorem map_range {l : List Tk} {g : Nat → Tk} (h : ∀ i, i < l.length → g i = l.getD i Tok.tk0) : (List.range l.length).map g = l := by
  apply List.ext_getElem (by simp)
  intro i h1 h2
  rw [List.getElem_map, List.getElem_range, h i h2, List.getD_eq_getElem?_getD, List.getElem?_eq_getElem h2]; rfl
theorem nb_lt {n : Int} {k : Nat} (h0 : 0 ≤ n) (h1 : n < 256 ^ k) : n.toNat / 256 ^ k = 0 := by
  rw [Nat.div_eq_zero_iff]; right
  have : ((n.toNat : Nat) : Int) < ((256 ^ k : Nat) : Int) := by rw [Int.natCast_pow, Int.toNat_of_nonneg h0]; exact h1
  exact Int.ofNat_lt.1 this
theorem getD_mem {l : List Tk} {i : Nat} (h : i < l.length) : l.getD i Tok.tk0 ∈ l := by
  rw [List.getD_eq_getElem?_getD, List.getElem?_eq_getElem h]; exact List.getElem_mem _
/-- What was laid down is read as it was. -/
theorem unp_bytes {n : N} (h : right n = true) : unp (bytes n) = n := by
  obtain ⟨h1, h2, h3⟩ := right_iff.1 h
  have hT : ∀ t ∈ n.toks, okT t = true := up_mem h1
  have hK : ∀ t ∈ n.kids, okK t = true := up_mem h2
  have hb : (n.toks.length : Int) + (n.kids.length : Int) < 256 := by
    rcases sizes_le h3 with ⟨_, k1, k2⟩ | ⟨_, k1, k2⟩
    · rw [k1]; simp; omega
    · rw [k1]; simp; omega
  have hk2 : (0 : Int) ≤ (if n.leaf = true then 1 else 2) ∧ (if n.leaf = true then (1 : Int) else 2) < 256 := by split <;> omega
  have hhd : hd n = [UInt8.ofNat (if n.leaf then 1 else 2), UInt8.ofNat (n.toks.length + n.kids.length)] := by
    unfold hd
    rw [nb1 hk2.1 hk2.2, nb1 (by omega) hb]
    have e1 : (if n.leaf = true then (1 : Int) else 2).toNat = if n.leaf then 1 else 2 := by split <;> rfl
    have e2 : ((n.toks.length : Int) + (n.kids.length : Int)).toNat = n.toks.length + n.kids.length := by omega
    rw [e1, e2]
    have f1 : ∀ m : Nat, m < 256 → Vint.fixL 1 m = [UInt8.ofNat m] := by
      intro m hm
      simp only [Vint.fixL]
      rw [Nat.mod_eq_of_lt hm]
    rw [f1 _ (by split <;> omega), f1 _ (by omega)]; rfl
  have hg0 : (bytes n).getD 0 0 = UInt8.ofNat (if n.leaf then 1 else 2) := by unfold bytes body; rw [hhd]; rfl
  have hg1 : (bytes n).getD 1 0 = UInt8.ofNat (n.toks.length + n.kids.length) := by unfold bytes body; rw [hhd]; rfl
  have hl : isLeaf (bytes n) = n.leaf := by
    unfold isLeaf
    rw [hg0]
    cases n.leaf <;> decide
  have hc : cnt (bytes n) = n.toks.length + n.kids.length := by
    unfold cnt
    rw [hg1, UInt8.toNat_ofNat']; omega
  rcases sizes_le h3 with ⟨k1, k2, k3⟩ | ⟨k1, k2, k3⟩
  · have ht : (List.range n.toks.length).map (tAt (bytes n)) = n.toks := by
      refine map_range fun i hi => ?_
      have hok := hT _ (getD_mem hi)
      obtain ⟨b1, b2, b3⟩ := okT_iff.1 hok
      have hs : bytes n = (hd n ++ (n.toks.take i).flatMap tB) ++ (Vint.fixL 4 (n.toks.getD i Tok.tk0).1.toNat ++ Vint.fixL 2 (n.toks.getD i Tok.tk0).2.1.toNat ++ Vint.fixL 1 ((n.toks.getD i Tok.tk0).2.2 + 1).toNat ++ ((n.toks.drop (i + 1)).flatMap tB ++ n.kids.flatMap kB ++ List.replicate (252 - (body n).length) 0)) := by
        rw [← tB_eq hok]
        unfold bytes
        generalize List.replicate (252 - (body n).length) (0 : UInt8) = z
        unfold body
        rw [flat_split n.toks i hi]
        simp
      have hal : (hd n ++ (n.toks.take i).flatMap tB).length = 2 + 7 * i := by
        rw [List.length_append, hd_len h3, flat_len _ (fun t ht => tB_len (hT t (List.mem_of_mem_take ht))), List.length_take, Nat.min_eq_left (by omega)]
      obtain ⟨r1, r2, r3⟩ := three_back _ _ _ _ _ 4 2 1 (by omega) (by omega) (by omega) (nb_lt (by omega) (by omega)) (nb_lt (by omega) (by omega)) (nb_lt (by omega) (by omega)) (by omega) (by omega) (by omega) _ hs
      rw [hal] at r1 r2 r3
      have e : (((2 + 7 * i : Nat)) : Int) = 2 + 7 * (i : Int) := by omega
      rw [e] at r1 r2 r3
      unfold tAt
      have r1' : nm (bytes n) (2 + 7 * (i : Int)) 4 = _ := r1
      have r2' : nm (bytes n) (2 + 7 * (i : Int) + 4) 2 = _ := r2
      have r3' : nm (bytes n) (2 + 7 * (i : Int) + 4 + 2) 1 = _ := r3
      rw [r1', r2', r3', Int.toNat_of_nonneg b1.1, Int.toNat_of_nonneg (by omega), Int.toNat_of_nonneg (by omega)]
      refine Prod.ext rfl (Prod.ext rfl ?_)
      show (n.toks.getD i Tok.tk0).2.2 + 1 - 1 = _
      omega
    unfold unp
    rw [hl, hc, k1, k2, List.length_nil, Nat.add_zero, if_pos rfl, if_pos rfl, ht]
    rw [← k1, ← k2]
  · have ht : (List.range n.kids.length).map (kAt (bytes n)) = n.kids := by
      refine map_range fun i hi => ?_
      have hok := hK _ (getD_mem hi)
      obtain ⟨b1, b2, b3⟩ := okK_iff.1 hok
      have hs : bytes n = (hd n ++ (n.kids.take i).flatMap kB) ++ (Vint.fixL 4 (n.kids.getD i Tok.tk0).1.toNat ++ Vint.fixL 4 (n.kids.getD i Tok.tk0).2.1.toNat ++ Vint.fixL 4 (n.kids.getD i Tok.tk0).2.2.toNat ++ ((n.kids.drop (i + 1)).flatMap kB ++ List.replicate (252 - (body n).length) 0)) := by
        rw [← kB_eq hok]
        unfold bytes
        generalize List.replicate (252 - (body n).length) (0 : UInt8) = z
        unfold body
        rw [flat_split n.kids i hi, k2]
        simp
      have hal : (hd n ++ (n.kids.take i).flatMap kB).length = 2 + 12 * i := by
        rw [List.length_append, hd_len h3, flat_len _ (fun t ht => kB_len (hK t (List.mem_of_mem_take ht))), List.length_take, Nat.min_eq_left (by omega)]
      obtain ⟨r1, r2, r3⟩ := three_back _ _ _ _ _ 4 4 4 (by omega) (by omega) (by omega) (nb_lt (by omega) (by omega)) (nb_lt (by omega) (by omega)) (nb_lt (by omega) (by omega)) (by omega) (by omega) (by omega) _ hs
      rw [hal] at r1 r2 r3
      have e : (((2 + 12 * i : Nat)) : Int) = 2 + 12 * (i : Int) := by omega
      rw [e] at r1 r2 r3
      unfold kAt
      have r1' : nm (bytes n) (2 + 12 * (i : Int)) 4 = _ := r1
      have r2' : nm (bytes n) (2 + 12 * (i : Int) + 4) 4 = _ := r2
      have r3' : nm (bytes n) (2 + 12 * (i : Int) + 4 + 4) 4 = _ := r3
      rw [r1', r2', r3', Int.toNat_of_nonneg (by omega), Int.toNat_of_nonneg (by omega), Int.toNat_of_nonneg (by omega)]
    unfold unp
    rw [hl, hc, k1, k2, List.length_nil, Nat.zero_add, if_neg (by simp), if_neg (by simp), ht]
    rw [← k1, ← k2]
theorem parse_bytes {n : N} (h : right n = true) : parse (bytes n) = (n, 0) := by
  unfold parse
  rw [if_neg (by rw [bytes_len h]; omega), unp_bytes h, if_pos (by unfold build; rw [if_pos h])]
end Nd
end Go.Proofs.Ytlmbebnpnnkhmaa
