/- Rows that grow by append. -/
import Derived.Test.YtldidoaagijnhaaSeq
namespace Go.Proofs.Ytldidoaagijnhaa
set_option linter.unusedSimpArgs false
set_option linter.unusedVariables false
namespace H
open Go

theorem own_stable (e : TypeId) (z : Nat) (v : Value) (n : Nat) (xs : List Value) : Stable (fun k => v.ownBlock = some k) (fun w => w.ownsRow 0 e z v n xs) := by
  intro w w' hb h
  refine ⟨h.1, ?_⟩
  rcases h.2 with hn | ⟨g, cap, cur, rfl, h0, hg, rest⟩
  · exact .inl hn
  · exact .inr ⟨g, cap, cur, rfl, h0, (hb g rfl).trans hg, rest⟩
/-- A row of the function's own, in v: n elements of z cells each. -/
def Own (e : TypeId) (z : Nat) (v : Value) (n : Nat) (xs : List Value) : Res := .sem (fun k => v.ownBlock = some k) (fun w => w.ownsRow 0 e z v n xs) (own_stable e z v n xs)

/-- What append asks of a slice type: its elements' type, their size in cells and in bytes. -/
def slT (P : Program) (t e : TypeId) (z b : Nat) : Prop := ∃ (i : TypeInfo) (zv : Value), P.underlying t = some (.slice e) ∧ P.info? e = some i ∧ i.zero = some zv ∧ i.size = z ∧ i.bytes = b ∧ zv.cells.size = z ∧ 0 < z
def slB (P : Program) (t e : TypeId) (z b : Nat) : Bool :=
  match P.underlying t, P.info? e with
  | some (.slice e'), some i => e' == e && i.size == z && i.bytes == b && (match i.zero with | some zv => zv.cells.size == z | none => false) && decide (0 < z)
  | _, _ => false
theorem slT_of {P : Program} {t e : TypeId} {z b : Nat} (h : slB P t e z b = true) : slT P t e z b := by
  unfold slB at h
  split at h
  · rename_i e' i h1 h2
    simp only [Bool.and_eq_true, beq_iff_eq, decide_eq_true_eq] at h
    obtain ⟨⟨⟨⟨rfl, hz⟩, hb⟩, hv⟩, h0⟩ := h
    cases hzv : i.zero with
    | none => rw [hzv] at hv; cases hv
    | some zv => rw [hzv] at hv; exact ⟨i, zv, h1, h2, hzv, hz, hb, by simpa using hv, h0⟩
  · cases h

theorem Sat.own_nil {w : World} {h : List Res} (e : TypeId) (z : Nat) (hs : Sat w h) : Sat w (Own e z (.slice none 0 0) 0 [] :: h) :=
  ⟨World.ownsRow_nil w 0 e z, fun k hk => by simp [Own, Res.fp, Value.ownBlock] at hk, fun _ _ k hk => by simp [Own, Res.fp, Value.ownBlock] at hk, hs⟩

/-- The row behind a growth. -/
theorem Sat.grown {w w' : World} {h : List Res} {e : TypeId} {z : Nat} {v v' : Value} {n n' : Nat} {xs xs' : List Value} (hs : Sat w (Own e z v n xs :: h)) (hg : w.grownBy w' v.ownBlock) (ho : w'.ownsRow 0 e z v' n' xs') (hv : v'.ownBlock = v.ownBlock ∨ ∀ k, v'.ownBlock = some k → w.heap.size ≤ k) :
    Sat w' (Own e z v' n' xs' :: h) := by
  obtain ⟨h1, h2, h3, h4⟩ := hs
  have hx : Ext (v.ownBlock.toList) w w' := ⟨hg.os, hg.tape, hg.output, hg.size, fun k hk hS => hg.block k hk fun e => hS (by rw [← e]; simp)⟩
  refine ⟨ho, fun k hk => (ho.lt k hk).2, fun r hr k hk hk' => ?_, h4.keep hx fun r hr k hk hk' => h3 r hr k (show v.ownBlock = some k by simpa using hk) hk'⟩
  rcases hv with hv | hv
  · exact h3 r hr k (show v.ownBlock = some k by rw [← hv]; exact hk) hk'
  · exact absurd (h4.lt r hr k hk') (by have := hv k hk; omega)

/-- An append's result: the old block, or a new one. -/
theorem run_append_own2 {P : Program} (w : World) {t ty e : TypeId} {z b : Nat} (ht : slT P t e z b) (v : Value) (n : Nat) (xs : List Value) (hown : w.ownsRow 0 e z v n xs)
    (a : Addr) (m c : Nat) (news : List Value) (hl : news.length = m * z) (hnews : ∀ j u, news[j]? = some u → w.cell? (a.add j) = some u) (h1 : ∀ u ∈ news, u.oneCell' = true) (hbytes : (n + m) * b ≤ 140737488355328) (h63 : n + m ≤ maxLen) :
    ∃ v' w', (Builtin.append_ #[t, t] ty #[v, .slice (some a) m c]).run P w = .ok v' w' ∧ w'.ownsRow 0 e z v' (n + m) (xs ++ news) ∧ w.grownBy w' v.ownBlock ∧ (v'.ownBlock = v.ownBlock ∨ ∀ k, v'.ownBlock = some k → w.heap.size ≤ k) := by
  obtain ⟨i, zv, ht1, ht2, ht3, hz, hb, hzs, hz0⟩ := ht
  obtain ⟨v', w', hr, ho, hg, _⟩ := run_append_own (P := P) w 0 t ty e i zv z b ht1 ht2 ht3 hz hb hzs hz0 v n xs hown a m c news hl hnews h1 h63 hbytes (Nat.zero_le _)
  refine ⟨v', w', hr, ho, hg, ?_⟩
  subst hz hb
  have hsmall : n + m ≤ 9223372036854775807 := by simp only [maxLen] at h63; omega
  rcases hown.2 with ⟨rfl, rfl⟩ | ⟨g, cap, cur, rfl, _, hgg, hnc, hcm, hcs, htake⟩
  · by_cases hm : m = 0
    · subst hm
      rcases ho.2 with ⟨rfl, _⟩ | ⟨g, cap, cur, rfl, _⟩
      · exact .inl rfl
      · have hn : news = [] := List.eq_nil_of_length_eq_zero (by simpa using hl)
        subst hn
        have : (Builtin.append_ #[t, t] ty #[.slice none 0 0, .slice (some a) 0 c]).run P w = .ok (.slice none 0 0) w := by
          simp [Builtin.append_, run_underlying ht1, sizeOf, typeInfo, ht2, Builtin.lenOf, Builtin.firstCells, loadCells, loadCellsFrom]
        rw [this] at hr
        injection hr with hr
        cases hr
    · have := run_append_nil (P := P) w t ty e i zv ht1 ht2 ht3 a m c news hl hnews (by omega) (by omega) (by have hb := hbytes; simp only [Nat.zero_add] at hb; omega)
      rw [this] at hr
      injection hr with hr
      right
      intro k hk
      subst hr
      simp only [Value.ownBlock, Option.some.injEq] at hk
      omega
  · by_cases hroom : n + m ≤ cap
    · have hfit : n * i.size + news.length ≤ cur.size := by rw [hl, hcs, ← Nat.add_mul]; exact Nat.mul_le_mul_right _ hroom
      have := run_append_room (P := P) w t ty e i ht1 ht2 g n cap cur hgg a m c news hl hnews h1 hroom hfit
      rw [this] at hr
      injection hr with hr
      subst hr
      exact .inl rfl
    · have holds : ∀ j u, xs[j]? = some u → w.cell? ((⟨g, 0, none⟩ : Addr).add j) = some u := hown.cells (g := g) rfl
      have := run_append_grow (P := P) w t ty e i zv ht1 ht2 ht3 ⟨g, 0, none⟩ n cap xs hown.1 holds a m c news hl hnews (by omega) (by omega) (growslice_fits (by omega) hbytes)
      rw [this] at hr
      injection hr with hr
      right
      intro k hk
      subst hr
      simp only [Value.ownBlock, Option.some.injEq] at hk
      omega

theorem own_slice {w : World} {e : TypeId} {z n : Nat} {v : Value} {xs : List Value} (h : w.ownsRow 0 e z v n xs) : ∃ a c, v = .slice a n c ∧ n ≤ c := by
  rcases h.2 with ⟨rfl, rfl⟩ | ⟨g, cap, cur, rfl, _, _, hc, _⟩
  · exact ⟨none, 0, rfl, Nat.le_refl _⟩
  · exact ⟨_, cap, rfl, hc⟩

/-- append(v, x...), x a slice whose elements can be looked at. -/
theorem RRun_append {P : Program} {t ty e : TypeId} {z b : Nat} {d : Option Nat} {ops rest : List Oper} {s : List Kn} {f : Fr} {h h' : List Res} {Q : Exit → Fr → List Res → Prop} {v : Value} {n : Nat} {xs : List Value} {g o m c : Nat} (news : List Value) (ht : slT P t e z b)
    (hh : ∀ w, Sat w h → Sat w (Own e z v n xs :: h')) (hl : news.length = m * z) (hnews : ∀ w, Sat w h → ∀ j u, news[j]? = some u → w.cell? ⟨g, o + j, none⟩ = some u) (h1 : ∀ u ∈ news, u.oneCell' = true) (hbytes : (n + m) * b ≤ 140737488355328) (h63 : n + m ≤ maxLen)
    (hk : ∀ a' c', n + m ≤ c' → RL P ops rest s (put f d (.slice a' (n + m) c')) (Own e z (.slice a' (n + m) c') (n + m) (xs ++ news) :: h') Q) :
    RRun P (sAppend #[t, t] ty #[v, .slice (some ⟨g, o, none⟩) m c]) ⟨d, ops, rest, s⟩ f h Q := by
  intro w hw
  have hs := hh w hw
  obtain ⟨v', w', hr, ho, hg, hv⟩ := run_append_own2 (P := P) w (ty := ty) ht v n xs hs.1 ⟨g, o, none⟩ m c news hl (fun j u hu => by rw [add_at]; exact hnews w hw j u hu) h1 hbytes h63
  obtain ⟨a', c', rfl, hc⟩ := own_slice ho
  exact ⟨_, w', _, hr, hs.grown hg ho hv, hk a' c' hc⟩

/-- One byte more. -/
theorem RRun_append_byte {P : Program} {t ty e : TypeId} {d : Option Nat} {ops rest : List Oper} {s : List Kn} {f : Fr} {h h' : List Res} {Q : Exit → Fr → List Res → Prop} {v : Value} {n : Nat} {xs : List UInt8} {g : Nat} {x : UInt8} {e' : TypeId} (ht : slT P t e 1 1)
    (hh : ∀ w, Sat w h → Sat w (Own e 1 v n (xs.map byte) :: h')) (hg : look ⟨g, 0, none⟩ h = some (byte x)) (hn : n ≤ 140737488355326)
    (hk : ∀ a' c', n + 1 ≤ c' → RL P ops rest s (put f d (.slice a' (n + 1) c')) (Own e 1 (.slice a' (n + 1) c') (n + 1) ((xs ++ [x]).map byte) :: h') Q) :
    RRun P (sAppend #[t, t] ty #[v, .slice (some ⟨g, 0, none⟩) 1 1]) ⟨d, ops, rest, s⟩ f h Q := by
  refine RRun_append (e := e) (z := 1) (b := 1) [byte x] ht hh rfl (fun w hw j u hu => ?_) (fun u hu => by simp at hu; subst hu; rfl) (by omega) (by simp only [maxLen]; omega) (fun a' c' hc => ?_)
  · match j, hu with
    | 0, hu =>
      simp only [List.getElem?_cons_zero, Option.some.injEq] at hu
      subst hu
      exact look_sound hw hg
  · have := hk a' c' hc
    rw [List.map_append] at this
    exact this
/-- string(b) of an own row. -/
theorem RRun_str_own {P : Program} {src dst e e' : TypeId} {d : Option Nat} {ops rest : List Oper} {s : List Kn} {f : Fr} {h : List Res} {Q : Exit → Fr → List Res → Prop} {a : Option Addr} {n c : Nat} {l : List UInt8} (hs : bytesT P src e) (hd : P.underlying dst = some .string)
    (hk : RL P ops rest s (put f d (str l)) (Own e' 1 (.slice a n c) n (l.map byte) :: h) Q) : RRun P (convert src dst (.slice a n c)) ⟨d, ops, rest, s⟩ f (Own e' 1 (.slice a n c) n (l.map byte) :: h) Q := by
  refine RRun_read (str l) (fun w hw => ?_) hk
  have ho : w.ownsRow 0 e' 1 (.slice a n c) n (l.map byte) := hw.1
  have hn : l.length = n := by have := ho.1; simpa using this
  rcases ho.2 with ⟨hnil, hn0⟩ | ⟨g, cap, cur, hv, _, hg, _⟩
  · cases hnil
    have : l = [] := List.eq_nil_of_length_eq_zero hn
    subst this
    rw [run_convert_bytes_string w src dst e none 0 0 hs.1 hs.2 hd]; rfl
  · cases hv
    refine run_bytesStr w hs hd _ n _ l hn fun i hi => ?_
    refine ho.cells (g := g) rfl i _ ?_
    rw [List.getElem?_map, List.getElem?_eq_getElem hi]; rfl

/-- A slice of one element of one cell. -/
theorem RRun_build1 {P : Program} {t e : TypeId} {b : Nat} {d : Option Nat} {ops rest : List Oper} {s : List Kn} {f : Fr} {h : List Res} {Q : Exit → Fr → List Res → Prop} {x : Value} (ht : slT P t e 1 b) (hx : x.cells = #[x])
    (hk : ∀ g, below g h → RL P ops rest s (put f d (.slice (some ⟨g, 0, none⟩) 1 1)) (.cells g e #[x] :: h) Q) : RRun P (sBuild t 1 #[(0, x)]) ⟨d, ops, rest, s⟩ f h Q := by
  intro w hw
  obtain ⟨i, zv, ht1, ht2, ht3, hz, hb, hzs, _⟩ := ht
  refine ⟨_, w.alloc (.cells #[x] e), _, ?_, hw.alloc e #[x], hk w.heap.size hw.below⟩
  have h0 : ∀ F : Nat → Value, (Array.map F (Array.range 1)).setIfInBounds 0 x = #[x] := fun F => by rw [show Array.range 1 = #[0] from rfl]; simp
  simp [sBuild, Instr.buildSlice, run_underlying ht1, sizeOf, typeInfo, zeroValue, ht2, ht3, hz, Instr.fill, hx, newRow, h0]
/-- A slice of some elements. -/
theorem RRun_build {P : Program} {t e : TypeId} {z b n : Nat} {parts : Array (Nat × Value)} {d : Option Nat} {ops rest : List Oper} {s : List Kn} {f : Fr} {h : List Res} {Q : Exit → Fr → List Res → Prop} (cs : Array Value) (ht : slT P t e z b) (hn : 0 < n) (hnz : n * z ≤ 16777216)
    (hf : ∀ zs : Array Value, zs.size = n * z → Instr.fill (fun i => some (i * z, z)) zs parts.toList = some cs)
    (hk : ∀ g, below g h → RL P ops rest s (put f d (.slice (some ⟨g, 0, none⟩) n n)) (.cells g e cs :: h) Q) : RRun P (sBuild t n parts) ⟨d, ops, rest, s⟩ f h Q := by
  intro w hw
  obtain ⟨i, zv, ht1, ht2, ht3, rfl, hb, hzs, h0⟩ := ht
  refine ⟨_, w.alloc (.cells cs e), _, ?_, hw.alloc e cs, hk w.heap.size hw.below⟩
  have hne : ¬ n * i.size = 0 := by have := Nat.mul_pos hn h0; omega
  have hle : ¬ (16777216 < n * i.size) := by omega
  have hf' := hf ((Array.range (n * i.size)).map (zv.cells[· % zv.cells.size]!)) (by simp)
  have h1 : ¬ n = 0 := by omega
  have h2 : ¬ i.size = 0 := by omega
  simp [sBuild, Instr.buildSlice, run_underlying ht1, sizeOf, typeInfo, zeroValue, ht2, ht3, newRow, hle, h1, h2, hf']
  intro he; exact absurd he hne
/-- make([]T, n). -/
theorem RRun_make {P : Program} {t e : TypeId} {z b n : Nat} {k1 k2 : IntKind} {d : Option Nat} {ops rest : List Oper} {s : List Kn} {f : Fr} {h : List Res} {Q : Exit → Fr → List Res → Prop} {zv : Value} (ht : slT P t e z b) (hz : zeroT P e = some zv) (hbytes : b * n ≤ 281474976710656) (h63 : n ≤ 9223372036854775807)
    (hk : ∀ g, below g h → RL P ops rest s (put f d (.slice (some ⟨g, 0, none⟩) n n)) (.cells g e (madeCells zv.cells (n * z)) :: h) Q) : RRun P (sMakeSlice t (.int k1 (n : Int)) (.int k2 (n : Int))) ⟨d, ops, rest, s⟩ f h Q := by
  intro w hw
  obtain ⟨i, zv', ht1, ht2, ht3, rfl, rfl, hzs, h0⟩ := ht
  have hzz : zv' = zv := by
    simpa [zeroT, ht2, ht3] using hz
  subst hzz
  refine ⟨_, w.alloc (.cells (madeCells zv'.cells (n * i.size)) e), _, ?_, hw.alloc e _, hk w.heap.size hw.below⟩
  have := run_make (P := P) w t e i zv' ht1 ht2 ht3 k1 k2 (n : Int) (n : Int) (by omega) (by omega) (by rw [← Int.natCast_mul]; omega) (by omega)
  simpa [sMakeSlice] using this
theorem made_bytes (n : Nat) : madeCells (byte 0).cells n = ((List.replicate n (0 : UInt8)).map byte).toArray := by
  apply Array.ext'
  have h := toList_madeCells_one (byte 0) n
  rw [show (byte 0).cells = #[byte 0] from rfl, h]
  simp
end H
end Go.Proofs.Ytldidoaagijnhaa
