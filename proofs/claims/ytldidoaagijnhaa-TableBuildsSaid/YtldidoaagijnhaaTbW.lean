/- table's reference: the walk: an automaton of bytes. Tables, in plain Lean: what was laid down is read as it was. table's laws: the walk: what must come of fixed calls. -/
import Derived.Test.YtldidoaagijnhaaTbS
import Derived.Test.YtldidoaagijnhaaTurn
import Derived.Test.YtldidoaagijnhaaTbO
import Derived.Test.YtldidoaagijnhaaDfaEY4
namespace Go.Proofs.Ytldidoaagijnhaa
set_option linter.unusedSimpArgs false
set_option linter.unusedVariables false
open H
theorem fix_num (s : List UInt8) (p k : Nat) (h : p + k ≤ s.length) : Vint.fixL k (Vint.numS s p k) = (s.drop p).take k := by
  refine List.ext_getElem? fun i => ?_
  rcases Nat.lt_or_ge i k with hi | hi
  · have hg := Vint.fixL_get k (Vint.numS s p k) i hi
    rw [hg, numS_digit s p k i hi, List.getElem?_take_of_lt hi, List.getElem?_drop, List.getD_eq_getElem?_getD, List.getElem?_eq_getElem (by omega)]
    simp
  · rw [List.getElem?_eq_none (by rw [Vint.fixL_len]; omega), List.getElem?_eq_none (by rw [List.length_take]; omega)]
theorem number_sum {s : List UInt8} {n : Nat} (hn : s.length = n + 4) : Vint.number s (n : Int) 4 = ((Vint.numS s n 4 : Int), 0) := by
  have h := Vint.numS_lt s n 4
  unfold Vint.number
  rw [if_neg (by unfold Vint.wide; omega), if_neg (by omega)]
  have e : (4 : Int).toNat = 4 := rfl
  rw [Int.toNat_natCast, e, if_neg (by omega)]
theorem sum_iff {s : List UInt8} {n : Nat} (hn : s.length = n + 4) : (Vint.numS s n 4 : Int) = ((Crc.of (s.take n)).toNat : Int) ↔ s.drop n = Tb.sumB (s.take n) := by
  have h1 : s.drop n = Vint.fixL 4 (Vint.numS s n 4) := by
    rw [fix_num s n 4 (by omega), List.take_of_length_le]
    rw [List.length_drop]; omega
  have h2 := Vint.numS_lt s n 4
  have h3 := (Crc.of (s.take n)).isLt
  rw [h1]
  unfold Tb.sumB
  constructor
  · intro h
    rw [show Vint.numS s n 4 = (Crc.of (s.take n)).toNat by omega]
  · intro h
    have := fix_inj h2 (by omega : (Crc.of (s.take n)).toNat < 256 ^ 4) h
    omega
set_option maxRecDepth 20000 in
set_option maxHeartbeats 4000000 in
theorem rtb_parse (s : List UInt8) (hsl : s.length ≤ 1000000) (w : World) : Does Try.prog 32 #[str s] w fun v w' => StillP w w' v (Tb.parse s) := by
  refine does (args := [str s]) Try.func32 rfl (by kernel_rfl) (by kernel_rfl) rfl ent_32 (Sat.start w []) ?_; intro QV hQ
  simp -implicitDefEqProofs (disch := omega) only [go_sem]
  refine RNew_intro fun g2 hg2 => ?_
  have hgw2 : w.heap.size ≤ g2 := hg2.1
  have hz : nilD.val = .agg (List.toArray (Dfa.dC (intsV (fun _ => 0) .i64) (.slice none 0 0) (.slice none 0 0))) := rfl
  have hnone : ∀ (e : Int) (S : List Nat) (w1 : World), Ext [] w w1 → (∀ k ∈ S, w.heap.size ≤ k) → ∀ w' h, Sat w' h → Res.anchor w1 S ∈ h → StillP w w' (.tuple #[.agg (List.toArray (Dfa.dC (intsV (fun _ => 0) .i64) (.slice none 0 0) (.slice none 0 0))), .int .i64 e]) (none, e) := fun e S w1 hx hS w' h hs hm => by
    rw [← hz]
    exact StillP.none e (hx.backS (hs.anchor hm) hS)
  have hn0 := fun e w' h hs hm => hnone e [] w (Ext.refl [] w) (by simp) w' h hs hm
  by_cases h1 : s.length < 8
  · have g1 : (s.length : Int) < 8 := by omega
    have hp : Tb.parse s = (none, 2) := by unfold Tb.parse; rw [if_pos h1]
    rw [hp] at hQ
    simp -implicitDefEqProofs (disch := omega) only [go_sem, g1, decide_true]
    exact hQ _ _ fun w' hs => hn0 2 w' _ hs (by simp)
  have g1 : ¬ (s.length : Int) < 8 := by omega
  obtain ⟨n, hn⟩ : ∃ n, s.length = n + 4 := ⟨s.length - 4, by omega⟩
  have e1 : (s.length : Int) - 4 = (n : Int) := by omega
  have e2 : s.length - 4 = n := by omega
  have gn : ¬ (n : Int) < 4 := by omega
  by_cases h2 : s.take 4 = [83, 67, 65, 78]
  rotate_left
  · have hp : Tb.parse s = (none, 12) := by unfold Tb.parse; rw [if_neg h1, if_pos h2]
    rw [hp] at hQ
    simp -implicitDefEqProofs (disch := omega) only [go_sem, g1, h2, decide_false]
    exact hQ _ _ fun w' hs => hn0 12 w' _ hs (by simp)
  simp -implicitDefEqProofs (disch := omega) only [go_sem, g1, e1, h2, decide_true, decide_false]
  refine RCall_eq (ref_number s (by omega) (n : Int) 4 (by omega)) ?_
  rw [number_sum hn]
  have t1 : (s.take n).length = n := by rw [List.length_take]; omega
  simp -implicitDefEqProofs (disch := omega) only [go_sem, e1]
  refine RCall_eq (ref_of (s.take n) (by omega)) ?_
  have hlt := (Crc.of (s.take n)).isLt
  have hsi := sum_iff hn
  simp -implicitDefEqProofs (disch := omega) only [go_sem, e1]
  by_cases h3 : s.drop n = Tb.sumB (s.take n)
  rotate_left
  · have hp : Tb.parse s = (none, 5) := by unfold Tb.parse; rw [if_neg h1, if_neg (by simp [h2]), e2, if_pos h3]
    have q3 : decide ((Vint.numS s n 4 : Int) = ((Crc.of (s.take n)).toNat : Int)) = false := decide_eq_false fun h => h3 (hsi.1 h)
    rw [hp] at hQ
    simp -implicitDefEqProofs (disch := omega) only [go_sem, q3]
    exact hQ _ _ fun w' hs => hn0 5 w' _ hs (by simp)
  have hp : Tb.parse s = match Tb.readD (s.take n) with
      | none => (none, 4)
      | some l => if Tb.build (Tb.mkD l) = (s, 0) then (some l, 0) else (none, 4) := by unfold Tb.parse; rw [if_neg h1, if_neg (by simp [h2]), e2, if_neg (by simp [h3])]; cases Tb.readD (s.take n) <;> rfl
  rw [hp] at hQ
  clear hp
  have q3 : decide ((Vint.numS s n 4 : Int) = ((Crc.of (s.take n)).toNat : Int)) = true := decide_eq_true (hsi.2 h3)
  simp -implicitDefEqProofs (disch := omega) only [go_sem, q3, e1]
  refine RCall_any fun w1 hs1 => (rtb_read (s.take n) (by omega) (by omega) w1).mono ?_
  rintro v w2 ⟨hx12, d, rfl, hm, hdn, hc1, hc2, hc3, hc5, hc4⟩
  have hs2 := hs1.ext hx12
  have hg21 : g2 < w1.heap.size := hs1.lt _ List.mem_cons_self g2 rfl
  refine ⟨_, hs2.reanchor, ?_⟩
  have hxw2 : Ext [] w w2 := (hs1.anchor (by simp)).trans hx12
  have hval : d.val = .agg (List.toArray (Dfa.dC (intsV d.cls .i64) (.slice d.a d.next.length d.c) (.slice d.ar d.rules.length d.cr))) := rfl
  have hn2 := fun e w' h hs hm => hnone e [g2] w2 hxw2 (by simp; omega) w' h hs hm
  rw [hval]
  simp -implicitDefEqProofs (disch := omega) only [go_sem]
  refine RNew_intro fun g5 hg5 => ?_
  have n25 : g2 ≠ g5 := Nat.ne_of_lt hg5.1
  simp -implicitDefEqProofs (disch := omega) only [go_sem, hsetN_ne, n25, Ne.symm n25]
  refine RCall_eqS (fun w3 hs => by have := rtb_build d (cls_in hc1) w3 (H.Mem_keepS hm (S := [g2]) (hs.anchor (by simp)) hdn (by simp; omega)); rw [hval] at this; exact this) ?_
  generalize hb : Tb.build d = be at *
  obtain ⟨bb, e⟩ := be
  cases hrd : Tb.readD (s.take n) with
  | none =>
    rw [hrd] at hQ
    simp -implicitDefEqProofs (disch := omega) only [go_sem, hsetN_ne, n25, Ne.symm n25, Option.isSome_none, Option.isSome_some, Bool.not_true, Bool.not_false]
    exact hQ _ _ fun w' hs => hn2 4 w' _ hs (by simp)
  | some l =>
    rw [hrd] at hQ
    obtain ⟨q1, q2, q3⟩ := hc4 l hrd
    have hdat : Tb.datOf d = l := by unfold Tb.datOf; rw [q1, q2, q3]
    have hbd : Tb.build (Tb.mkD l) = (bb, e) := by rw [← hdat, ← hb]; rfl
    simp only [hbd] at hQ
    have hok : ∀ w' h, Sat w' h → Res.anchor w2 [g2] ∈ h → StillP w w' (.tuple #[.agg (List.toArray (Dfa.dC (intsV d.cls .i64) (.slice d.a d.next.length d.c) (.slice d.ar d.rules.length d.cr))), .int .i64 0]) (some l, 0) := fun w' h hs hmm =>
      ⟨hxw2.backS (S := [g2]) (hs.anchor hmm) (by simp; omega), d, rfl, H.Mem_keepS hm (S := [g2]) (hs.anchor hmm) hdn (by simp; omega), hdn.mono (hs1.anchor (w0 := w) (S := []) (by simp)).size, hc1, hc2, hc3, hc5, hdat⟩
    by_cases he : e = 0
    · by_cases hbs : bb = s
      · rw [if_pos (by rw [he, hbs])] at hQ
        simp -implicitDefEqProofs (disch := omega) only [go_sem, he, hbs, decide_true, hsetN_ne, n25, Ne.symm n25, Option.isSome_some, Bool.not_true]
        exact hQ _ _ fun w' hs => hok w' _ hs (by simp)
      · rw [if_neg (fun h => hbs (Prod.mk.inj h).1)] at hQ
        simp -implicitDefEqProofs (disch := omega) only [go_sem, he, hbs, decide_true, decide_false, hsetN_ne, n25, Ne.symm n25, Option.isSome_some, Bool.not_true]
        exact hQ _ _ fun w' hs => hn2 4 w' _ hs (by simp)
    · rw [if_neg (fun h => he (Prod.mk.inj h).2)] at hQ
      simp -implicitDefEqProofs (disch := omega) only [go_sem, he, decide_false, hsetN_ne, n25, Ne.symm n25, Option.isSome_some, Bool.not_true]
      exact hQ _ _ fun w' hs => hn2 4 w' _ hs (by simp)
namespace Tb
theorem num_at {s rest : List UInt8} {p : Nat} {n most : Int} (h : s.drop p = (Vint.put n).1 ++ rest) (hp : p ≤ s.length) (h0 : 0 ≤ n) (h1 : n ≤ most) (h2 : n ≤ 9223372036854775807) :
    num s most (p : Int) true = (n, ((p + (Vint.put n).1.length : Nat) : Int), true) ∧ s.drop (p + (Vint.put n).1.length) = rest := by
  rw [put_nn h0] at h ⊢
  have hs : s = s.take p ++ Vint.putL n.toNat ++ rest := by rw [List.append_assoc, ← h, List.take_append_drop]
  have hl : (s.take p).length = p := by rw [List.length_take]; omega
  have hg := Vint.get_back (s.take p) rest n.toNat (by omega)
  rw [← hs, hl] at hg
  refine ⟨?_, ?_⟩
  · unfold num
    rw [hg]
    simp only [Int.toNat_of_nonneg h0]
    rw [if_pos ⟨trivial, trivial, h1⟩]
  · rw [← List.drop_drop, h, List.drop_left]
theorem row_at {s : List UInt8} : ∀ (r : List Int) (p : Nat) (acc : List Int) (rest : List UInt8), s.drop p = putS r ++ rest → p ≤ s.length → (∀ n ∈ r, 0 ≤ n ∧ n ≤ 999) →
    rowGo s r.length (p : Int) true acc = (acc ++ r, ((p + (putS r).length : Nat) : Int), true) ∧ s.drop (p + (putS r).length) = rest
  | [], p, acc, rest, h, hp, _ => by
    rw [putS_nil, List.nil_append] at h
    exact ⟨by rw [List.length_nil, rowGo, List.append_nil]; rfl, h⟩
  | n :: r, p, acc, rest, h, hp, hr => by
    have hn := hr n (by simp)
    rw [putS_cons, List.append_assoc] at h
    obtain ⟨h1, h2⟩ := num_at (most := 999) h hp hn.1 hn.2 (by omega)
    have hlen := congrArg List.length h
    rw [List.length_drop, List.length_append] at hlen
    obtain ⟨i1, i2⟩ := row_at r (p + (Vint.put n).1.length) (acc ++ [n]) rest h2 (by omega) fun m hm => hr m (by simp [hm])
    rw [List.length_cons, rowGo, h1]
    simp only []
    rw [i1, putS_cons, List.length_append, ← Nat.add_assoc]
    exact ⟨by rw [List.append_assoc]; rfl, i2⟩
theorem rows_at {s : List UInt8} {cl : Nat} : ∀ (rows : List (List Int)) (p : Nat) (acc : List (List Int)) (rest : List UInt8), s.drop p = rows.flatMap putS ++ rest → p ≤ s.length → (∀ r ∈ rows, r.length = cl ∧ ∀ n ∈ r, 0 ≤ n ∧ n ≤ 999) →
    ∃ q : Nat, q ≤ s.length ∧ rowsGo s cl rows.length (p : Int) true acc = (acc ++ rows, (q : Int), true) ∧ s.drop q = rest
  | [], p, acc, rest, h, hp, _ => ⟨p, hp, by rw [List.length_nil, rowsGo, List.append_nil], by rw [List.flatMap_nil, List.nil_append] at h; exact h⟩
  | r :: rows, p, acc, rest, h, hp, hr => by
    obtain ⟨hl, hn⟩ := hr r (by simp)
    rw [List.flatMap_cons, List.append_assoc] at h
    obtain ⟨h1, h2⟩ := row_at r p [] (rows.flatMap putS ++ rest) h hp hn
    have hlen := congrArg List.length h
    rw [List.length_drop, List.length_append] at hlen
    rw [hl, List.nil_append] at h1
    obtain ⟨q, q1, q2, q3⟩ := rows_at rows (p + (putS r).length) (acc ++ [r]) rest h2 (by omega) fun m hm => hr m (by simp [hm])
    refine ⟨q, q1, ?_, q3⟩
    rw [List.length_cons, rowsGo, if_pos rfl, h1]
    simp only []
    rw [q2, List.append_assoc]; rfl
theorem run_exists (F : Nat → Int) (c : Nat) (hc : c < 256) : ∃ n, 1 ≤ n ∧ c + n ≤ 256 ∧ (∀ j, j < n → F (c + j) = F c) ∧ (c + n = 256 ∨ F (c + n) ≠ F c) := by
  have key : ∀ k m, 1 ≤ m → c + m + k = 256 → (∀ j, j < m → F (c + j) = F c) → ∃ n, 1 ≤ n ∧ c + n ≤ 256 ∧ (∀ j, j < n → F (c + j) = F c) ∧ (c + n = 256 ∨ F (c + n) ≠ F c) := by
    intro k
    induction k with
    | zero => intro m h1 h2 h3; exact ⟨m, h1, by omega, h3, .inl (by omega)⟩
    | succ k ih =>
      intro m h1 h2 h3
      by_cases h : F (c + m) = F c
      · refine ih (m + 1) (by omega) (by omega) fun j hj => ?_
        rcases Nat.lt_succ_iff_lt_or_eq.1 hj with hl | rfl
        · exact h3 j hl
        · exact h
      · exact ⟨m, h1, by omega, h3, .inr h⟩
  exact key (256 - (c + 1)) 1 (by omega) (by omega) fun j hj => by rw [show j = 0 by omega]; rfl
theorem cls_at {s : List UInt8} {F : Nat → Int} (hF : ∀ i, i < 256 → 0 ≤ F i ∧ F i ≤ 255) : ∀ (k m c p : Nat) (G : Nat → Int) (rest : List UInt8), c + k = 256 → 257 ≤ m + c → s.drop p = fromRun F c ++ rest → p ≤ s.length →
    ∃ (q : Nat) (F' : Nat → Int), q ≤ s.length ∧ clsRead s m c (p : Int) true G = (F', (q : Int), true) ∧ s.drop q = rest ∧ ∀ i, F' i = if c ≤ i ∧ i < 256 then F i else G i := by
  intro k
  induction k using Nat.strongRecOn with
  | _ k ih =>
    intro m c p G rest hck hm h hp
    obtain ⟨m, rfl⟩ : ∃ k, m = k + 1 := ⟨m - 1, by omega⟩
    rw [clsRead]
    by_cases hc : c < 256
    rotate_left
    · obtain rfl : c = 256 := by omega
      rw [fromRun_end, List.nil_append] at h
      refine ⟨p, G, hp, by rw [if_neg (fun h => hc h.1)], h, fun i => ?_⟩
      rw [if_neg (by omega)]
    obtain ⟨n, n1, n2, n3, n4⟩ := run_exists F c hc
    rw [fromRun_run F c (n - 1) n (by omega) n2 n3 n4, put2, List.append_assoc, List.append_assoc] at h
    have hFc := hF c hc
    obtain ⟨g1, g2⟩ := num_at (most := 255) h hp hFc.1 hFc.2 (by omega)
    have hlen := congrArg List.length h
    rw [List.length_drop, List.length_append] at hlen
    obtain ⟨g3, g4⟩ := num_at (most := 256 - (c : Int)) g2 (by omega) (by omega) (by omega) (by omega)
    have hlen2 := congrArg List.length g2
    rw [List.length_drop, List.length_append] at hlen2
    rw [if_pos ⟨hc, rfl⟩, g1]
    simp only []
    rw [g3]
    simp only [Int.toNat_natCast]
    rw [if_pos ⟨trivial, by omega⟩]
    obtain ⟨q, F', q1, q2, q3, q4⟩ := ih (256 - (c + n)) (by omega) m (c + n) _ (fun i => if c ≤ i ∧ i < c + n then F c else G i) rest (by omega) (by omega) g4 (by omega)
    refine ⟨q, F', q1, q2, q3, fun i => ?_⟩
    rw [q4 i]
    by_cases h1 : c + n ≤ i ∧ i < 256
    · rw [if_pos h1, if_pos (by omega)]
    · rw [if_neg h1]
      by_cases h2 : c ≤ i ∧ i < c + n
      · rw [if_pos h2, if_pos (by omega)]
        have := n3 (i - c) (by omega)
        rw [show c + (i - c) = i by omega] at this
        exact this.symm
      · rw [if_neg h2, if_neg (by omega)]
theorem states_at {s : List UInt8} {rows : List (List Int)} : ∀ (which rules : List Int) (p : Nat) (nx : List (List Int)) (ru : List Int) (rest : List UInt8), which.length = rules.length → s.drop p = ends which rules ++ rest → p ≤ s.length →
    (∀ k ∈ which, 0 ≤ k ∧ k < rows.length) → rows.length ≤ 1000 → (∀ r ∈ rules, -1 ≤ r ∧ r ≤ 31) → statesGo s rows which.length (p : Int) nx ru = some (nx ++ which.map (fun k => rows.getD k.toNat []), ru ++ rules)
  | [], [], p, nx, ru, rest, _, _, _, _, _, _ => by simp [statesGo]
  | [], _ :: _, _, _, _, _, h, _, _, _, _, _ => by simp at h
  | _ :: _, [], _, _, _, _, h, _, _, _, _, _ => by simp at h
  | k :: which, r :: rules, p, nx, ru, rest, hl, h, hp, hk, hrl, hr => by
    have hk0 := hk k (by simp)
    have hr0 := hr r (by simp)
    have he : ends (k :: which) (r :: rules) = putS [k, r + 1] ++ ends which rules := by unfold ends; rw [List.zip_cons_cons, List.flatMap_cons]
    rw [he, put2, List.append_assoc, List.append_assoc] at h
    obtain ⟨g1, g2⟩ := num_at (most := (rows.length : Int) - 1) h hp hk0.1 (by omega) (by omega)
    have hlen := congrArg List.length h
    rw [List.length_drop, List.length_append] at hlen
    obtain ⟨g3, g4⟩ := num_at (most := 32) g2 (by omega) (by omega) (by omega) (by omega)
    have hlen2 := congrArg List.length g2
    rw [List.length_drop, List.length_append] at hlen2
    have hkN : kNum s rows.length (p : Int) = (k, ((p + (Vint.put k).1.length : Nat) : Int), true) := g1
    have hrN : rNum s rows.length (p : Int) = (r + 1, ((p + (Vint.put k).1.length + (Vint.put (r + 1)).1.length : Nat) : Int), true) := by unfold rNum; rw [hkN]; exact g3
    rw [List.length_cons, statesGo, hrN, hkN]
    simp only [if_true]
    rw [states_at which rules _ _ _ rest (by simpa using hl) g4 (by omega) (fun x hx => hk x (by simp [hx])) hrl (fun x hx => hr x (by simp [hx]))]
    simp only [List.map_cons, List.append_assoc, List.singleton_append]
    rw [show r + 1 - 1 = r by omega]
/-- What was laid down is read as it was. -/
theorem read_back {d : Dfa.D} (hR : Dfa.Right d) : ∃ F, readD (bytes d.cls d.next d.rules) = some (F, d.next, d.rules) ∧ ∀ i, i < 256 → F i = d.cls i := by
  obtain ⟨hn1, hn2, hul, hc0, hrow⟩ := hR
  have hco := Dfa.classes_ok d hc0
  have hR' : Dfa.Right d := ⟨hn1, hn2, hul, hc0, hrow⟩
  have hcls : ∀ i, i < 256 → 0 ≤ d.cls i ∧ d.cls i ≤ 255 := fun i hi => by have := hco.2.2 i hi; omega
  have hrl : ∀ i, i < d.next.length → ((Dfa.row d i).length : Int) = Dfa.classes d := fun i hi => (hrow i hi).2.2.1
  have hmem : ∀ r ∈ d.next, (r.length : Int) = Dfa.classes d ∧ ∀ n ∈ r, 0 ≤ n ∧ n ≤ 999 := fun r hr => by
    obtain ⟨i, hi, rfl⟩ := List.getElem_of_mem hr
    have h1 := hrow i hi
    unfold Dfa.RowOk at h1
    have hrow' : Dfa.row d i = d.next[i] := by unfold Dfa.row; rw [List.getD_eq_getElem?_getD, List.getElem?_eq_getElem hi]; rfl
    rw [hrow'] at h1
    refine ⟨h1.2.2.1, fun n hn => ?_⟩
    obtain ⟨j, hj, rfl⟩ := List.getElem_of_mem hn
    have := h1.2.2.2 j hj
    rw [List.getD_eq_getElem?_getD, List.getElem?_eq_getElem hj] at this
    simp only [Option.getD_some] at this
    omega
  have hru : ∀ r ∈ d.rules, -1 ≤ r ∧ r ≤ 31 := fun r hr => by
    obtain ⟨i, hi, rfl⟩ := List.getElem_of_mem hr
    have h1 := hrow i (by omega)
    have h2 := h1.1
    have h3 := h1.2.1
    rw [List.getD_eq_getElem?_getD, List.getElem?_eq_getElem hi, Option.getD_some] at h2 h3
    omega
  have hRo := rowsOf d.next
  have hbd : bytes d.cls d.next d.rules = [83, 67, 65, 78] ++ ((Vint.put (d.next.length : Int)).1 ++ ((Vint.put ((Dfa.row d 0).length : Int)).1 ++ (fromRun d.cls 0 ++ ((Vint.put ((rowsW d.next).1.length : Int)).1 ++ ((rowsW d.next).1.flatMap putS ++ (ends (rowsW d.next).2 d.rules ++ [])))))) := by
    unfold bytes
    rw [put2, put1, runs_from]
    simp only [List.append_assoc, List.append_nil]; rfl
  generalize rowsW d.next = rw_ at *
  obtain ⟨rows, which⟩ := rw_
  simp only [] at hRo hbd
  obtain ⟨s, hs⟩ : ∃ s, s = bytes d.cls d.next d.rules := ⟨_, rfl⟩
  rw [← hs] at hbd ⊢
  have hlen := congrArg List.length hbd
  rw [List.length_append] at hlen
  simp only [List.length_cons, List.length_nil] at hlen
  have hd4 : s.drop 4 = (Vint.put (d.next.length : Int)).1 ++ ((Vint.put ((Dfa.row d 0).length : Int)).1 ++ (fromRun d.cls 0 ++ ((Vint.put (rows.length : Int)).1 ++ (rows.flatMap putS ++ (ends which d.rules ++ []))))) := by
    rw [hbd]; rfl
  have hr0 := hrl 0 (by omega)
  have hrn := hRo.le
  obtain ⟨a1, a2⟩ := num_at (most := 1000) hd4 (by omega) (by omega) (by omega) (by omega)
  have l1 := congrArg List.length hd4
  rw [List.length_drop, List.length_append] at l1
  obtain ⟨b1, b2⟩ := num_at (most := 256) a2 (by omega) (by omega) (by omega) (by omega)
  have l2 := congrArg List.length a2
  rw [List.length_drop, List.length_append] at l2
  obtain ⟨q, F', q1, q2, q3, q4⟩ := cls_at hcls 256 257 0 _ (fun _ => 0) _ (by omega) (by omega) b2 (by omega)
  obtain ⟨c1, c2⟩ := num_at (most := 1000) q3 q1 (by omega) (by omega) (by omega)
  have l3 := congrArg List.length q3
  rw [List.length_drop, List.length_append] at l3
  obtain ⟨t, t1, t2, t3⟩ := rows_at (cl := (Dfa.row d 0).length) rows _ [] _ c2 (by omega) fun r hr => by
    have := hmem r (hRo.mem r hr)
    exact ⟨by omega, this.2⟩
  have hwm : ∀ k ∈ which, 0 ≤ k ∧ k < rows.length := fun k hk => by
    obtain ⟨i, hi, rfl⟩ := List.getElem_of_mem hk
    have h1 := hRo.at_ i (by rw [← hRo.len]; exact hi)
    have h2 := h1.1
    have h3 := h1.2.1
    rw [List.getD_eq_getElem?_getD, List.getElem?_eq_getElem hi, Option.getD_some] at h2 h3
    exact ⟨h2, h3⟩
  have hst := states_at which d.rules t [] [] [] (by rw [hRo.len, hul]) t3 t1 hwm (by omega) hru
  have hnext : which.map (fun k => rows.getD k.toNat []) = d.next := by
    refine List.ext_getElem (by rw [List.length_map, hRo.len]) fun i h1 h2 => ?_
    have hi : i < which.length := by rw [List.length_map] at h1; exact h1
    have h3 := (hRo.at_ i h2).2.2
    rw [List.getElem_map]
    rw [List.getD_eq_getElem?_getD (l := which), List.getElem?_eq_getElem hi, Option.getD_some] at h3
    rw [h3, List.getD_eq_getElem?_getD, List.getElem?_eq_getElem h2]; rfl
  rw [List.nil_append, List.nil_append, hnext, hRo.len] at hst
  have e1 : st0 s = ((d.next.length : Int), ((4 + (Vint.put (d.next.length : Int)).1.length : Nat) : Int), true) := a1
  have e2 : cl0 s = (((Dfa.row d 0).length : Int), ((4 + (Vint.put (d.next.length : Int)).1.length + (Vint.put ((Dfa.row d 0).length : Int)).1.length : Nat) : Int), true) := by unfold cl0; rw [e1]; exact b1
  have e3 : C0 s = (F', (q : Int), true) := by unfold C0; rw [e2]; exact q2
  have e4 : n0 s = ((rows.length : Int), ((q + (Vint.put (rows.length : Int)).1.length : Nat) : Int), true) := by unfold n0; rw [e3]; exact c1
  have e5 : R0 s = (rows, (t : Int), true) := by unfold R0; rw [e4, e2]; simp only [Int.toNat_natCast]; rw [t2, List.nil_append]
  refine ⟨F', ?_, fun i hi => by rw [q4 i, if_pos ⟨by omega, hi⟩]⟩
  unfold readD
  rw [e5, e3, e1]
  simp only [Int.toNat_natCast, if_true]
  rw [hst]; rfl
theorem runsGo_congr {F G : Nat → Int} (h : ∀ i, i < 256 → F i = G i) : ∀ (k c f : Nat), c + k ≤ 257 → f ≤ 255 → runsGo F k c f = runsGo G k c f
  | 0, _, _, _, _ => rfl
  | k + 1, c, f, hc, hf => by
    rw [runsGo, runsGo, h f (by omega)]
    by_cases h1 : c = 256
    · rw [if_pos (.inl h1), if_pos (.inl h1)]
      have : k = 0 := by omega
      subst this
      rfl
    · rw [h c (by omega), runsGo_congr h k (c + 1) c (by omega) (by omega), runsGo_congr h k (c + 1) f (by omega) hf]
theorem clsGo_congr {F G : Nat → Int} (h : ∀ i, i < 256 → F i = G i) : ∀ (k i : Nat) (n : Int), i + k ≤ 256 → Dfa.clsGo F k i n = Dfa.clsGo G k i n
  | 0, _, _, _ => rfl
  | k + 1, i, n, hi => by
    rw [Dfa.clsGo, Dfa.clsGo, h i (by omega), clsGo_congr h k (i + 1) (n + 1) (by omega), clsGo_congr h k (i + 1) n (by omega)]
theorem build_congr {d e : Dfa.D} (hc : ∀ i, i < 256 → d.cls i = e.cls i) (hn : d.next = e.next) (hr : d.rules = e.rules) : build d = build e := by
  have h1 : Dfa.classes d = Dfa.classes e := clsGo_congr hc 256 0 0 (by omega)
  have h2 : Dfa.Right d ↔ Dfa.Right e := by
    unfold Dfa.Right Dfa.RowOk Dfa.row
    rw [h1, hn, hr]
  have h3 : bytes d.cls d.next d.rules = bytes e.cls e.next e.rules := by
    unfold bytes runs
    rw [runsGo_congr hc 257 0 0 (by omega) (by omega), hn, hr]
  unfold build
  by_cases h : Dfa.Right e
  · rw [if_pos h, if_pos (h2.2 h), h3]
  · rw [if_neg h, if_neg fun h' => h (h2.1 h')]
theorem bytes_len (F : Nat → Int) (next : List (List Int)) (rules : List Int) : 4 ≤ (bytes F next rules).length := by
  unfold bytes
  simp only [List.length_append, List.length_cons, List.length_nil]; omega
theorem bytes_take (F : Nat → Int) (next : List (List Int)) (rules : List Int) : (bytes F next rules).take 4 = [83, 67, 65, 78] := by
  unfold bytes
  simp only [List.append_assoc]; rfl
theorem build_split {d : Dfa.D} (hR : Dfa.Right d) : build d = (bytes d.cls d.next d.rules ++ sumB (bytes d.cls d.next d.rules), 0) := by unfold build; rw [if_pos hR]
theorem parse_back {d : Dfa.D} (hR : Dfa.Right d) : ∃ F, parse (build d).1 = (some (F, d.next, d.rules), 0) ∧ ∀ i, i < 256 → F i = d.cls i := by
  obtain ⟨F, h1, h2⟩ := read_back hR
  refine ⟨F, ?_, h2⟩
  have hb := build_split hR
  have hl := bytes_len d.cls d.next d.rules
  have ht := bytes_take d.cls d.next d.rules
  have hbb : build (mkD (F, d.next, d.rules)) = build d := build_congr (d := mkD (F, d.next, d.rules)) h2 rfl rfl
  rw [hb] at hbb ⊢
  simp only []
  generalize hB : bytes d.cls d.next d.rules = B at *
  have hs := sumB_len B
  have hlen : (B ++ sumB B).length = B.length + 4 := by rw [List.length_append, hs]
  unfold parse
  rw [if_neg (by omega), if_neg (by rw [List.take_append_of_le_length (by omega)]; simp [ht]), hlen, Nat.add_sub_cancel, List.take_left' rfl, List.drop_left' rfl, if_neg (by simp), h1]
  simp only []
  rw [if_pos hbb]
/-- With a bit turned there is none. -/
theorem parse_turned {d : Dfa.D} (hR : Dfa.Right d) {k : Nat} (b : UInt8) (hk : k < (build d).1.length) : (parse (tnB (build d).1 k b)).2 ≠ 0 := by
  have hb := build_split hR
  have hl := bytes_len d.cls d.next d.rules
  rw [hb] at hk ⊢
  simp only [] at hk ⊢
  generalize hB : bytes d.cls d.next d.rules = B at *
  have hs := sumB_len B
  have hlen : (tnB (B ++ sumB B) k b).length = B.length + 4 := by rw [tnB_len, List.length_append, hs]
  rw [List.length_append, hs] at hk
  have hst := sum_turned (t := B) b hk
  unfold parse
  rw [if_neg (by omega)]
  by_cases h4 : (tnB (B ++ sumB B) k b).take 4 = [83, 67, 65, 78]
  · rw [if_neg (by simp [h4]), if_pos (by rw [hlen, Nat.add_sub_cancel]; exact hst)]
    simp
  · rw [if_pos h4]; simp
end Tb
open H
def kD (gA gB gC : Nat) : Dfa.D := ⟨fun _ => 0, [[0]], [3], some ⟨gB, 0, none⟩, 1, fun _ => some ⟨gA, 0, none⟩, fun _ => 1, some ⟨gC, 0, none⟩, 1⟩
theorem kD_right : Dfa.Right (kD 0 0 0) := by decide +kernel
theorem kD_right' (gA gB gC : Nat) : Dfa.Right (kD gA gB gC) := kD_right
theorem kD_build : (Tb.build (kD 0 0 0)).1.length = 17 ∧ (Tb.build (kD 0 0 0)).1.take 13 = [83, 67, 65, 78, 1, 1, 0, 128, 2, 1, 0, 0, 4] := by decide +kernel
theorem kD_mem {w : World} {h : List Res} {gA gB gC : Nat} (hs : Sat w h) (h1 : Res.cells gA 3 #[.int .i64 0] ∈ h) (h2 : Res.cells gB 46 #[.slice (some ⟨gA, 0, none⟩) 1 1] ∈ h) (h3 : Res.cells gC 3 #[.int .i64 3] ∈ h) : Dfa.Mem w (kD gA gB gC) := by
  refine ⟨?_, fun i hi => ?_, ?_, ?_, fun i => ?_, ?_⟩
  · refine rd_cells (hs.mem _ h2) 0 1 1 _ (hs.lt _ h2 gB rfl) (fun i _ => rfl) fun i j hi hj => ?_
    obtain rfl : i = 0 := by omega
    obtain rfl : j = 0 := by omega
    rfl
  · obtain rfl : i = 0 := by simp [kD] at hi; exact hi
    refine rd_cells (hs.mem _ h1) 0 1 1 _ (hs.lt _ h1 gA rfl) (fun i _ => rfl) fun i j hi hj => ?_
    obtain rfl : i = 0 := by omega
    obtain rfl : j = 0 := by omega
    rfl
  · refine rd_cells (hs.mem _ h3) 0 1 1 _ (hs.lt _ h3 gC rfl) (fun i _ => rfl) fun i j hi hj => ?_
    obtain rfl : i = 0 := by omega
    obtain rfl : j = 0 := by omega
    rfl
  · simp [kD, maxLen]
  · cases i <;> simp [kD, Dfa.row, maxLen]
  · simp [kD, maxLen]
theorem p_scan : Tb.parse [83, 67, 65, 78] = (none, 2) := by unfold Tb.parse; rw [if_pos (by decide)]
theorem p_low : Tb.parse [115, 99, 97, 110, 49, 50, 51, 52] = (none, 12) := by unfold Tb.parse; rw [if_neg (by decide), if_pos (by decide)]
set_option maxRecDepth 20000 in
set_option maxHeartbeats 2000000 in
theorem law_known (w : World) : Does Try.prog 24 #[] w fun v w' => v = .bool true ∧ Ext [] w w' := by
  refine does (args := []) Try.func24 rfl (by kernel_rfl) (by kernel_rfl) rfl ent_24 (Sat.start w []) ?_; intro QV hQ
  simp -implicitDefEqProofs (disch := omega) only [go_sem]
  refine RRun_build1 tints_sl rfl fun gA hgA => ?_
  simp -implicitDefEqProofs (disch := omega) only [go_sem]
  refine RRun_build1 tintss_sl rfl fun gB hgB => ?_
  simp -implicitDefEqProofs (disch := omega) only [go_sem]
  refine RRun_build1 tints_sl rfl fun gC hgC => ?_
  simp -implicitDefEqProofs (disch := omega) only [go_sem]
  refine RNew_intro fun g1 hg1 => ?_
  have hw1 : w.heap.size ≤ g1 := hg1.2.2.2.1
  have nC1 : gC < g1 := hg1.1
  have nB1 : gB < g1 := hg1.2.1
  have nA1 : gA < g1 := hg1.2.2.1
  have hval : (kD gA gB gC).val = .agg (List.toArray (Dfa.dC (intsV (fun _ => 0) .i64) (.slice (some ⟨gB, 0, none⟩) 1 1) (.slice (some ⟨gC, 0, none⟩) 1 1))) := rfl
  have hR := kD_right' gA gB gC
  obtain ⟨hb1, hb2⟩ := kD_build
  obtain ⟨F, hpb, hF⟩ := Tb.parse_back hR
  have hbk : Tb.build (kD gA gB gC) = ((Tb.build (kD 0 0 0)).1, 0) := Tb.build_split hR
  rw [hbk] at hpb
  generalize (Tb.build (kD 0 0 0)).1 = bs at *
  simp -implicitDefEqProofs (disch := omega) only [go_sem]
  refine RCall_eqS (fun w1 hs => by have := tb_build (kD gA gB gC) (fun i _ => ⟨by simp [kD], by simp [kD]⟩) (fun i hi => by
    obtain rfl : i = 0 := by simp [kD] at hi; exact hi
    exact ⟨by simp [kD], by simp [kD]⟩) w1 (kD_mem hs (by simp) (by simp) (by simp)); rw [hval] at this; exact this) ?_
  rw [hbk]
  simp -implicitDefEqProofs (disch := omega) only [go_sem]
  refine RCall_any fun w1 hs1 => (tb_parse bs (by omega) w1).mono ?_
  rw [hpb]
  rintro v w2 ⟨hx12, d, rfl, hm, hdn, _, _, _, _, hdat⟩
  have hs2 := hs1.ext hx12
  refine ⟨_, hs2.reanchor, ?_⟩
  have hxw2 : Ext [] w w2 := hs2.anchor (by simp)
  have hkm : Dfa.Mem w2 (kD gA gB gC) := kD_mem hs2 (by simp) (by simp) (by simp)
  have hg1w : g1 < w1.heap.size := hs1.lt _ List.mem_cons_self g1 rfl
  have hkm3 : ∀ w3, Ext [g1] w2 w3 → Dfa.Mem w3 (kD gA gB gC) := fun w3 hx => ⟨hkm.next.keepS hx fun k hk hm => by
      simp [kD] at hk hm; omega, fun i hi => (hkm.rows i hi).keepS hx fun k hk hm => by
      simp [kD] at hk hm; omega, hkm.rules.keepS hx fun k hk hm => by
      simp [kD] at hk hm; omega, hkm.nlen, hkm.rlen, hkm.ulen⟩
  have hdm3 : ∀ w3, Ext [g1] w2 w3 → Dfa.Mem w3 d := fun w3 hx => H.Mem_keepS hm hx hdn (by simp; omega)
  have hsame : Dfa.sameB d (kD gA gB gC) = true := by
    have h1 : d.cls = F := congrArg Prod.fst hdat
    have h2 : d.next = [[0]] := congrArg (fun x => x.2.1) hdat
    have h3 : d.rules = [3] := congrArg (fun x => x.2.2) hdat
    exact same_yes (alike_iff.2 fun i hi => by rw [h1]; exact hF i hi) (by rw [h2]; rfl) (by rw [h3]; rfl)
  have hdval : d.val = .agg (List.toArray (Dfa.dC (intsV d.cls .i64) (.slice d.a d.next.length d.c) (.slice d.ar d.rules.length d.cr))) := rfl
  rw [hdval]
  simp -implicitDefEqProofs (disch := omega) only [go_sem]
  refine RNew_intro fun g4 hg4 => ?_
  have n14 : g1 ≠ g4 := Nat.ne_of_lt hg4.1
  simp -implicitDefEqProofs (disch := omega) only [go_sem]
  refine RCall_any fun w3 hs3 => (tb_parse [83, 67, 65, 78] (by decide) w3).mono ?_
  rw [p_scan]
  rintro v w4 ⟨hx34, d2, rfl, _⟩
  refine ⟨_, hs3.ext hx34, ?_⟩
  have hd2 : d2.val = .agg (List.toArray (Dfa.dC (intsV d2.cls .i64) (.slice d2.a d2.next.length d2.c) (.slice d2.ar d2.rules.length d2.cr))) := rfl
  rw [hd2]
  simp -implicitDefEqProofs (disch := omega) only [go_sem]
  refine RNew_intro fun g6 hg6 => ?_
  have n16 : g1 ≠ g6 := Nat.ne_of_lt hg6.2.1
  have n46 : g4 ≠ g6 := Nat.ne_of_lt hg6.1
  simp -implicitDefEqProofs (disch := omega) only [go_sem]
  refine RCall_any fun w5 hs5 => (tb_parse [115, 99, 97, 110, 49, 50, 51, 52] (by decide) w5).mono ?_
  rw [p_low]
  rintro v w6 ⟨hx56, d3, rfl, _⟩
  refine ⟨_, hs5.ext hx56, ?_⟩
  have hd3 : d3.val = .agg (List.toArray (Dfa.dC (intsV d3.cls .i64) (.slice d3.a d3.next.length d3.c) (.slice d3.ar d3.rules.length d3.cr))) := rfl
  rw [hd3]
  simp -implicitDefEqProofs (disch := omega) only [go_sem]
  refine RNew_intro fun g8 hg8 => ?_
  have n18 : g1 ≠ g8 := Nat.ne_of_lt hg8.2.2.1
  have n48 : g4 ≠ g8 := Nat.ne_of_lt hg8.2.1
  have e17 : decide ((bs.length : Int) = 17) = true := decide_eq_true (by omega)
  have e13 : (13 : Nat) ≤ bs.length := by omega
  simp -implicitDefEqProofs (disch := omega) only [go_sem, e17, e13, hb2, n14, n16, n46, n18, n48, decide_true]
  refine RCall_eqS (u := .bool true) (fun w7 hs => ?_) ?_
  · have hx : Ext [g1] w2 w7 := hs.anchor (by simp)
    have := rdfa_same d (kD gA gB gC) w7 (hdm3 w7 hx) (hkm3 w7 hx)
    rw [hsame, hdval, hval] at this
    exact this
  simp -implicitDefEqProofs (disch := omega) only [go_sem]
  exact hQ _ _ fun w' hs => ⟨rfl, hxw2.back (hs.anchor (by simp)) hw1⟩
end Go.Proofs.Ytldidoaagijnhaa
