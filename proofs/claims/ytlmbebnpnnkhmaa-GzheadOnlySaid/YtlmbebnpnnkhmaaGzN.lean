/- Heads of archives, in plain Lean: what was laid down is read as it was; cut anywhere it ends too early. -/
import Derived.Test.YtlmbebnpnnkhmaaGzM
namespace Go.Proofs.Ytlmbebnpnnkhmaa
set_option linter.unusedSimpArgs false
set_option linter.unusedVariables false
namespace Gz
open Vint (fixL numS)
theorem numS_fix (a c : List UInt8) (d m : Nat) (hm : m < 256 ^ d) : numS (a ++ fixL d m ++ c) a.length d = m := by
  rw [Vint.numS_back _ _ m d fun i hi => Vint.fix_at a c d m i hi, Nat.mod_eq_of_lt hm]
theorem numS_fix' {s a c : List UInt8} {d m p : Nat} (hs : s = a ++ fixL d m ++ c) (hp : p = a.length) (hm : m < 256 ^ d) : numS s p d = m := by
  subst hs hp; exact numS_fix a c d m hm
theorem drop_app (a b : List UInt8) (n : Nat) (h : n = a.length) : (a ++ b).drop n = b := by subst h; simp
theorem takeX_app (A e C : List UInt8) (h : e.length ≤ 65535) : takeX (A ++ (fixL 2 e.length ++ e) ++ C) A.length = some (e, A.length + (2 + e.length)) := by
  have hn : numS (A ++ (fixL 2 e.length ++ e) ++ C) A.length 2 = e.length := numS_fix' (c := e ++ C) (by simp only [List.append_assoc]) rfl (by omega)
  unfold takeX
  rw [hn, if_pos (by simp only [List.length_append, Vint.fixL_len]; omega)]
  have hd : (A ++ (fixL 2 e.length ++ e) ++ C).drop (A.length + 2) = e ++ C := by
    rw [show A ++ (fixL 2 e.length ++ e) ++ C = (A ++ fixL 2 e.length) ++ (e ++ C) by simp only [List.append_assoc]]
    exact drop_app _ _ _ (by simp only [List.length_append, Vint.fixL_len])
  rw [hd, List.take_left, Nat.add_assoc]
theorem while_app : ∀ (z C : List UInt8), bare z = true → (z ++ 0 :: C).takeWhile (· != 0) = z
  | [], C, _ => by simp
  | a :: z, C, h => by
    unfold bare at h
    rw [List.all_cons, Bool.and_eq_true] at h
    rw [List.cons_append, List.takeWhile_cons, if_pos h.1, while_app z C h.2]
theorem takeZ_app (A z C : List UInt8) (h : bare z = true) : takeZ (A ++ (z ++ [0]) ++ C) A.length = some (z, A.length + (z.length + 1)) := by
  have hz : zs (A ++ (z ++ [0]) ++ C) A.length = z := by
    unfold zs
    rw [List.append_assoc, drop_app A _ _ rfl, List.append_assoc]
    exact while_app z C h
  unfold takeZ
  rw [hz, if_pos (by simp only [List.length_append, List.length_cons, List.length_nil]; omega), Nat.add_assoc]
theorem optX_app {F : Nat} {e : List UInt8} (hf : fits F 4 e = true) (h : e.length ≤ 65535) (A C : List UInt8) : opt F 4 takeX (A ++ exB F e ++ C) A.length = some (e, (A ++ exB F e).length) := by
  unfold opt exB
  unfold fits at hf
  cases hh : has F 4 with
  | true =>
    rw [if_pos rfl, if_pos rfl, takeX_app A e C h]
    simp only [List.length_append, Vint.fixL_len]
  | false =>
    rw [hh, Bool.false_or, decide_eq_true_eq] at hf
    rw [if_neg (by simp), if_neg (by simp), hf, List.append_nil]
theorem optZ_app {F b : Nat} {z : List UInt8} (hf : fits F b z = true) (h : bare z = true) (A C : List UInt8) : opt F b takeZ (A ++ zB F b z ++ C) A.length = some (z, (A ++ zB F b z).length) := by
  unfold opt zB
  unfold fits at hf
  cases hh : has F b with
  | true =>
    rw [if_pos rfl, if_pos rfl, takeZ_app A z C h]
    simp only [List.length_append, List.length_cons, List.length_nil]
  | false =>
    rw [hh, Bool.false_or, decide_eq_true_eq] at hf
    rw [if_neg (by simp), if_neg (by simp), hf, List.append_nil]
theorem flds_app {F : Nat} {e n t : List UInt8} (h4 : fits F 4 e = true) (h8 : fits F 8 n = true) (h16 : fits F 16 t = true) (he : e.length ≤ 65535) (hn : bare n = true) (ht : bare t = true) (A C : List UInt8) :
    flds (A ++ exB F e ++ zB F 8 n ++ zB F 16 t ++ C) F A.length = some (e, n, t, (A ++ exB F e ++ zB F 8 n ++ zB F 16 t).length) := by
  have h1 := optX_app h4 he A (zB F 8 n ++ zB F 16 t ++ C)
  have h2 := optZ_app h8 hn (A ++ exB F e) (zB F 16 t ++ C)
  have h3 := optZ_app h16 ht (A ++ exB F e ++ zB F 8 n) C
  simp only [← List.append_assoc] at h1 h2 h3
  unfold flds
  rw [h1]
  simp only
  rw [h2]
  simp only
  rw [h3]
theorem fixB_len (f t l o : Nat) : (fixB f t l o).length = 10 := by
  unfold fixB; simp only [List.length_append, Vint.fixL_len, List.length_cons, List.length_nil]
theorem flags_all {F : Nat} (hF : F < 32) (h4 : F % 4 = 0) (tx sm : Bool) (f : Nat) (hf : f = F + (if tx then 1 else 0) + (if sm then 2 else 0)) : f < 32 ∧ f / 4 * 4 = F ∧ has f 1 = tx ∧ has f 2 = sm ∧ has f 4 = has F 4 ∧ has f 8 = has F 8 ∧ has f 16 = has F 16 := by
  subst hf
  have : ∀ F : Nat, F < 32 → F % 4 = 0 → ∀ tx sm : Bool, (F + (if tx then 1 else 0) + (if sm then 2 else 0)) < 32 ∧ (F + (if tx then 1 else 0) + (if sm then 2 else 0)) / 4 * 4 = F ∧ has (F + (if tx then 1 else 0) + (if sm then 2 else 0)) 1 = tx ∧ has (F + (if tx then 1 else 0) + (if sm then 2 else 0)) 2 = sm ∧
    has (F + (if tx then 1 else 0) + (if sm then 2 else 0)) 4 = has F 4 ∧ has (F + (if tx then 1 else 0) + (if sm then 2 else 0)) 8 = has F 8 ∧ has (F + (if tx then 1 else 0) + (if sm then 2 else 0)) 16 = has F 16 := by decide +kernel
  exact this F hF h4 tx sm
theorem opt_congr {f F b : Nat} (h : has f b = has F b) (t : List UInt8 → Nat → Option (List UInt8 × Nat)) (s : List UInt8) (p : Nat) : opt f b t s p = opt F b t s p := by unfold opt; rw [h]
theorem flds_congr {f F : Nat} (h4 : has f 4 = has F 4) (h8 : has f 8 = has F 8) (h16 : has f 16 = has F 16) (s : List UInt8) (p : Nat) : flds s f p = flds s F p := by
  unfold flds
  simp only [opt_congr h4, opt_congr h8, opt_congr h16]
/-- What a right head is. -/
theorem right_all {h : Hd} (hr : right h = true) : ∃ F T L O : Nat, h = ⟨(T : Int), h.extra, h.name, h.note, (L : Int), (O : Int), h.text, h.sum, (F : Int)⟩ ∧ F < 32 ∧ F % 4 = 0 ∧ T < 4294967296 ∧ L < 256 ∧ O < 256 ∧
    fits F 4 h.extra = true ∧ fits F 8 h.name = true ∧ fits F 16 h.note = true ∧ h.extra.length ≤ 65535 ∧ bare h.name = true ∧ bare h.note = true := by
  obtain ⟨tm, ex, nm, nt, lv, os, tx, sm, fl⟩ := h
  unfold right okF rng fit3 at hr
  simp only [Bool.and_eq_true, decide_eq_true_eq] at hr
  obtain ⟨⟨⟨f1, f2, f3⟩, ⟨⟨a, b⟩, ⟨c, d⟩, ⟨e, f⟩⟩⟩, ⟨g4, g8, g16⟩, hx, hn, ht⟩ := hr
  obtain ⟨F, rfl⟩ := Int.eq_ofNat_of_zero_le f1
  obtain ⟨T, rfl⟩ := Int.eq_ofNat_of_zero_le a
  obtain ⟨L, rfl⟩ := Int.eq_ofNat_of_zero_le c
  obtain ⟨O, rfl⟩ := Int.eq_ofNat_of_zero_le e
  rw [Int.toNat_natCast] at g4 g8 g16
  exact ⟨F, T, L, O, rfl, by omega, by omega, by omega, by omega, by omega, g4, g8, g16, hx, hn, ht⟩
theorem sumOf_lt (s : List UInt8) : sumOf s < 65536 := Nat.mod_lt _ (by decide)
theorem bytes_ge (h : Hd) : 10 ≤ (bytes h).length := by
  unfold bytes body
  simp only [List.length_append, fixB_len]
  omega
theorem parse_back {h : Hd} (hr : right h = true) (A C : List UInt8) : parse (A ++ bytes h ++ C) (A.length : Int) = (h, ((A.length + (bytes h).length : Nat) : Int), 0) := by
  have hge := bytes_ge h
  obtain ⟨F, T, L, O, he, hF, hF4, hT, hL, hO, g4, g8, g16, hx, hn, ht⟩ := right_all hr
  obtain ⟨hfl, hq4, hh1, hh2, hh4, hh8, hh16⟩ := flags_all hF hF4 h.text h.sum (flagB h) (by rw [he]; rfl)
  have hbody : body h = fixB (flagB h) T L O ++ exB F h.extra ++ zB F 8 h.name ++ zB F 16 h.note := by
    unfold body
    have e1 : h.flags.toNat = F := by rw [he]; simp
    have e2 : h.time.toNat = T := by rw [he]; simp
    have e3 : h.level.toNat = L := by rw [he]; simp
    have e4 : h.os.toNat = O := by rw [he]; simp
    rw [e1, e2, e3, e4]
  unfold parse
  rw [if_neg (by omega), if_neg (by rw [List.length_append, List.length_append]; omega), Int.toNat_natCast]
  generalize hf : flagB h = f at *
  generalize hS : A ++ bytes h ++ C = s
  have hs0 : s = A ++ ([31, 139, 8] ++ (fixL 1 f ++ (fixL 4 T ++ (fixL 1 L ++ (fixL 1 O ++ (exB F h.extra ++ (zB F 8 h.name ++ (zB F 16 h.note ++ (sumB h.sum (body h) ++ C))))))))) := by
    rw [← hS]
    unfold bytes
    rw [hbody]
    unfold fixB
    simp only [List.append_assoc]
  have n1 : numS s (A.length + 3) 1 = f := numS_fix' (a := A ++ [31, 139, 8]) (c := fixL 4 T ++ (fixL 1 L ++ (fixL 1 O ++ (exB F h.extra ++ (zB F 8 h.name ++ (zB F 16 h.note ++ (sumB h.sum (body h) ++ C))))))) (by rw [hs0]; simp only [List.append_assoc]) (by simp) (by omega)
  have n2 : numS s (A.length + 4) 4 = T := numS_fix' (a := A ++ [31, 139, 8] ++ fixL 1 f) (c := fixL 1 L ++ (fixL 1 O ++ (exB F h.extra ++ (zB F 8 h.name ++ (zB F 16 h.note ++ (sumB h.sum (body h) ++ C)))))) (by rw [hs0]; simp only [List.append_assoc]) (by simp [Vint.fixL_len]) (by omega)
  have n3 : numS s (A.length + 8) 1 = L := numS_fix' (a := A ++ [31, 139, 8] ++ fixL 1 f ++ fixL 4 T) (c := fixL 1 O ++ (exB F h.extra ++ (zB F 8 h.name ++ (zB F 16 h.note ++ (sumB h.sum (body h) ++ C))))) (by rw [hs0]; simp only [List.append_assoc]) (by simp [Vint.fixL_len]) (by omega)
  have n4 : numS s (A.length + 9) 1 = O := numS_fix' (a := A ++ [31, 139, 8] ++ fixL 1 f ++ fixL 4 T ++ fixL 1 L) (c := exB F h.extra ++ (zB F 8 h.name ++ (zB F 16 h.note ++ (sumB h.sum (body h) ++ C)))) (by rw [hs0]; simp only [List.append_assoc]) (by simp [Vint.fixL_len]) (by omega)
  rw [numS_one] at n1 n3 n4
  have hm : (s.drop A.length).take 3 = [31, 139, 8] := by
    rw [hs0, drop_app A _ _ rfl]; rfl
  have hfl2 : flds s f (A.length + 10) = some (h.extra, h.name, h.note, (A ++ body h).length) := by
    rw [flds_congr hh4 hh8 hh16]
    have := flds_app g4 g8 g16 hx hn ht (A ++ fixB f T L O) (sumB h.sum (body h) ++ C)
    have hl : (A ++ fixB f T L O).length = A.length + 10 := by rw [List.length_append, fixB_len]
    rw [hl] at this
    have hsx : s = A ++ fixB f T L O ++ exB F h.extra ++ zB F 8 h.name ++ zB F 16 h.note ++ (sumB h.sum (body h) ++ C) := by
      rw [hs0]; unfold fixB; simp only [List.append_assoc]
    rw [hsx, this, hbody]
    simp only [List.append_assoc]
  unfold parseN
  rw [if_neg (by rw [hm]; simp), n1, if_neg (by omega)]
  unfold fin
  rw [hfl2]
  simp only
  have hhd : hdOf s A.length f h.extra h.name h.note = h := by
    unfold hdOf
    rw [n2, n3, n4, hh1, hh2, hq4]
    exact he.symm
  rw [hhd, hh2]
  have hlen : (A ++ body h).length = A.length + (body h).length := List.length_append
  have hsB : s = (A ++ body h) ++ (sumB h.sum (body h) ++ C) := by
    rw [← hS]; unfold bytes; simp only [List.append_assoc]
  cases hsm : h.sum with
  | false =>
    rw [if_neg (by simp), hlen]
    unfold bytes
    rw [hsm]
    simp [sumB]
  | true =>
    rw [hsm] at hsB
    have hsum : sumB true (body h) = fixL 2 (sumOf (body h)) := rfl
    rw [hsum] at hsB
    have hn2 : numS s (A ++ body h).length 2 = sumOf (body h) := numS_fix' (c := C) (by rw [hsB]; simp only [List.append_assoc]) rfl (by have := sumOf_lt (body h); omega)
    have hcut : (s.drop A.length).take ((A ++ body h).length - A.length) = body h := by
      rw [hsB, List.append_assoc, drop_app A _ _ rfl, hlen, Nat.add_sub_cancel_left, List.take_left]
    have hlt : (A ++ body h).length + 2 ≤ s.length := by rw [hsB]; simp only [List.length_append, Vint.fixL_len]; omega
    rw [if_pos rfl, if_pos hlt, hn2, hcut, if_pos rfl, hlen]
    unfold bytes
    rw [hsm, hsum, List.length_append, Vint.fixL_len, Nat.add_assoc]

-- a beginning alone
theorem getD_take (s : List UInt8) (k i : Nat) (h : i < k) : (s.take k).getD i 0 = s.getD i 0 := by
  rw [List.getD_eq_getElem?_getD, List.getD_eq_getElem?_getD, List.getElem?_take, if_pos h]
theorem numS_take (s : List UInt8) (k p : Nat) : ∀ d, p + d ≤ k → numS (s.take k) p d = numS s p d
  | 0, _ => rfl
  | d + 1, h => by
    show numS (s.take k) p d + ((s.take k).getD (p + d) 0).toNat * 256 ^ d = _
    rw [numS_take s k p d (by omega), getD_take s k _ (by omega)]; rfl
theorem takeX_take (s : List UInt8) (k p : Nat) (hk : k ≤ s.length) : takeX (s.take k) p = none ∨ takeX (s.take k) p = takeX s p := by
  unfold takeX
  have hl : (s.take k).length = k := by rw [List.length_take]; omega
  rw [hl]
  split
  · rename_i h
    have hn := numS_take s k p 2 (by omega)
    rw [hn] at h ⊢
    right
    rw [if_pos (by omega), List.drop_take, List.take_take, Nat.min_eq_left (by omega)]
  · exact .inl rfl
theorem while_take : ∀ (l : List UInt8) (m : Nat), ((l.take m).takeWhile (· != 0)).length < (l.take m).length → (l.take m).takeWhile (· != 0) = l.takeWhile (· != 0)
  | [], m, h => by simp at h
  | a :: l, 0, h => by simp at h
  | a :: l, m + 1, h => by
    rw [List.take_succ_cons] at h ⊢
    rw [List.takeWhile_cons] at h ⊢
    rw [List.takeWhile_cons]
    split
    · rename_i ha
      rw [if_pos ha] at h
      simp only [List.length_cons] at h
      rw [while_take l m (by omega)]
    · rfl
theorem takeZ_take (s : List UInt8) (k p : Nat) (hk : k ≤ s.length) : takeZ (s.take k) p = none ∨ takeZ (s.take k) p = takeZ s p := by
  unfold takeZ
  have hl : (s.take k).length = k := by rw [List.length_take]; omega
  rw [hl]
  split
  · rename_i h
    right
    have hz : zs (s.take k) p = zs s p := by
      unfold zs at h ⊢
      rw [List.drop_take] at h ⊢
      refine while_take _ _ ?_
      rw [List.length_take, List.length_drop]
      omega
    rw [hz] at h ⊢
    rw [if_pos (by omega)]
  · exact .inl rfl
theorem opt_take {t : List UInt8 → Nat → Option (List UInt8 × Nat)} {s : List UInt8} {k p : Nat} (f b : Nat) (h : t (s.take k) p = none ∨ t (s.take k) p = t s p) : opt f b t (s.take k) p = none ∨ opt f b t (s.take k) p = opt f b t s p := by
  unfold opt
  split
  · exact h
  · exact .inr rfl
theorem flds_take (s : List UInt8) (f k p : Nat) (hk : k ≤ s.length) : flds (s.take k) f p = none ∨ flds (s.take k) f p = flds s f p := by
  unfold flds
  rcases opt_take f 4 (takeX_take s k p hk) with h | h
  · rw [h]; exact .inl rfl
  rw [h]
  cases opt f 4 takeX s p with
  | none => exact .inl rfl
  | some x =>
    obtain ⟨e, p1⟩ := x
    simp only
    rcases opt_take f 8 (takeZ_take s k p1 hk) with h | h
    · rw [h]; exact .inl rfl
    rw [h]
    cases opt f 8 takeZ s p1 with
    | none => exact .inl rfl
    | some x =>
      obtain ⟨n, p2⟩ := x
      simp only
      rcases opt_take f 16 (takeZ_take s k p2 hk) with h | h
      · rw [h]; exact .inl rfl
      rw [h]; exact .inr rfl
theorem fin_take (s : List UInt8) (f k : Nat) (hk : k ≤ s.length) (h10 : 10 ≤ k) : fin (s.take k) 0 f = (h0, 0, 2) ∨ fin (s.take k) 0 f = fin s 0 f := by
  have hl : (s.take k).length = k := by rw [List.length_take]; omega
  unfold fin
  rcases flds_take s f k (0 + 10) hk with h | h
  · rw [h]; exact .inl rfl
  have hle : ∀ e n t q, flds (s.take k) f (0 + 10) = some (e, n, t, q) → q ≤ k := by
    intro e n t q hq
    have := (flds_some (s := s.take k) (by omega) hq).2.2.2.1
    omega
  rw [h] at hle ⊢
  cases hx : flds s f (0 + 10) with
  | none => exact .inl rfl
  | some x =>
    obtain ⟨e, n, t, q⟩ := x
    have hqk := hle e n t q hx
    simp only
    have hh : hdOf (s.take k) 0 f e n t = hdOf s 0 f e n t := by
      unfold hdOf
      rw [numS_take s k _ 4 (by omega), getD_take s k _ (by omega), getD_take s k _ (by omega)]
    rw [hh, hl]
    have hc : ((s.take k).drop 0).take (q - 0) = (s.drop 0).take (q - 0) := by
      rw [List.drop_zero, List.drop_zero, Nat.sub_zero, List.take_take, Nat.min_eq_left hqk]
    rw [hc]
    split
    · by_cases h2 : q + 2 ≤ k
      · right
        rw [if_pos h2, numS_take s k q 2 (by omega), if_pos (show q + 2 ≤ s.length by omega)]
      · left
        rw [if_neg h2]
    · exact .inr rfl
theorem parse_cut {h : Hd} (hr : right h = true) (k : Nat) (hk : k < (bytes h).length) : parse ((bytes h).take k) 0 = (h0, 0, 2) := by
  have hl : ((bytes h).take k).length = k := by rw [List.length_take]; omega
  by_cases h10 : k < 10
  · unfold parse
    rw [if_neg (by omega), if_pos (by rw [hl]; omega)]
  have hb := parse_back hr [] []
  simp only [List.nil_append, List.append_nil, List.length_nil, Nat.zero_add] at hb
  have hb0 : parse (bytes h) 0 = (h, ((bytes h).length : Int), 0) := hb
  generalize bytes h = s at *
  have hp : parse (s.take k) 0 = (h0, 0, 2) ∨ parse (s.take k) 0 = parse s 0 := by
    unfold parse
    rw [if_neg (by omega), if_neg (by rw [hl]; omega), if_neg (by omega), if_neg (by omega)]
    simp only [Int.toNat_zero]
    unfold parseN
    have hm : ((s.take k).drop 0).take 3 = (s.drop 0).take 3 := by rw [List.drop_zero, List.drop_zero, List.take_take, Nat.min_eq_left (by omega)]
    rw [hm, getD_take s k _ (by omega)]
    split
    · exact .inr rfl
    split
    · exact .inr rfl
    exact fin_take s _ k (by omega) (by omega)
  rcases hp with h | h
  · exact h
  · exfalso
    have h3 : (parse (s.take k) 0).2.2 = 0 := by rw [h, hb0]
    obtain ⟨hd, to, h4, _, _, _, h5⟩ := parse_only h3
    rw [h, hb0] at h4
    injection h4 with h4 h6
    injection h6 with h6
    omega
end Gz
end Go.Proofs.Ytlmbebnpnnkhmaa
