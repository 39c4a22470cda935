/- Rows of bytes that are written: clear, copy, append of zeros; string of a part. -/
import Derived.Test.YtldidoaagijnhaaMut
namespace Go.Proofs.Ytldidoaagijnhaa
set_option linter.unusedSimpArgs false
set_option linter.unusedVariables false
namespace H
open Go
theorem RCall_newS {P : Program} {k : FuncId} {args : Array Value} {d : Option Nat} {ops rest : List Oper} {s : List Kn} {f : Fr} {h : List Res} {Q : Exit → Fr → List Res → Prop} {Φ : Value → List Res → Prop}
    (c : ∀ w, Sat w h → Does P k args w fun v w' => ∃ rs, Sat w' (rs ++ [.anchor w []]) ∧ Φ v rs) (hk : ∀ v rs, Φ v rs → (∃ w, Sat w (rs ++ h)) → RL P ops rest s (put f d v) (rs ++ h) Q) : RCall P k args ⟨d, ops, rest, s⟩ f h Q :=
  RCall_any fun w hs => (c w hs).mono fun v w' ⟨rs, hr, hv⟩ => ⟨rs ++ h, hs.join hr, hk v rs hv ⟨w', hs.join hr⟩⟩
theorem RCall_frameS {P : Program} {k : FuncId} {args : Array Value} {d : Option Nat} {ops rest : List Oper} {s : List Kn} {f : Fr} {h : List Res} {Q : Exit → Fr → List Res → Prop} {Φ : Value → List Res → Prop} (rs0 suf : List Res) (S : List Nat) (hh : ∀ w, Sat w h → Sat w (rs0 ++ suf)) (hS : ∀ k ∈ S, ∃ r ∈ rs0, r.fp k)
    (c : ∀ w, Sat w (rs0 ++ suf) → Does P k args w fun v w' => ∃ rs1, Sat w' (rs1 ++ [.anchor w S]) ∧ Φ v rs1) (hk : ∀ v rs1, Φ v rs1 → (∃ w, Sat w (rs1 ++ suf)) → RL P ops rest s (put f d v) (rs1 ++ suf) Q) : RCall P k args ⟨d, ops, rest, s⟩ f h Q :=
  RCall_any fun w hs => (c w (hh w hs)).mono fun v w' ⟨rs1, hr, hv⟩ => ⟨rs1 ++ suf, (hh w hs).frame hS hr, hk v rs1 hv ⟨w', (hh w hs).frame hS hr⟩⟩
theorem cells_ne {h : List Res} {g g' : Nat} {t t' : TypeId} {cs cs' : Array Value} (hs : ∃ w, Sat w (.cells g t cs :: h)) (hm : .cells g' t' cs' ∈ h) : g' ≠ g := by
  obtain ⟨w, _, _, h3, _⟩ := hs
  exact fun e => h3 _ hm g rfl e.symm
theorem cells_ne2 {h : List Res} {r : Res} {g g' : Nat} {t t' : TypeId} {cs cs' : Array Value} (hs : ∃ w, Sat w (r :: .cells g t cs :: h)) (hm : .cells g' t' cs' ∈ h) : g' ≠ g := by
  obtain ⟨w, hs⟩ := hs
  exact cells_ne ⟨w, hs.2.2.2⟩ hm
/-- Of a block of one's own: it is none of what was there. -/
theorem cells_ge {h : List Res} {g : Nat} {t : TypeId} {cs : Array Value} {w0 : World} (hs : ∃ w, Sat w (.cells g t cs :: h)) (hm : .anchor w0 [] ∈ h) : w0.heap.size ≤ g := by
  obtain ⟨w, _, _, h3, _⟩ := hs
  have := h3 _ hm g rfl
  rcases Nat.lt_or_ge g w0.heap.size with hh | hh
  · exact absurd ⟨hh, by simp⟩ this
  · exact hh

theorem hsetN_at {g : Nat} {t : TypeId} (o : Nat) : ∀ (vs : List Value) (i : Nat) (cs : Array Value) (h : List Res), (∀ v ∈ vs, v.oneCell' = true) → o + i + vs.length ≤ cs.size →
    hsetN ⟨g, o, none⟩ vs i (.cells g t cs :: h) = some (.cells g t (cs.toList.take (o + i) ++ vs ++ cs.toList.drop (o + i + vs.length)).toArray :: h)
  | [], i, cs, h, _, _ => by
    simp only [hsetN, List.append_nil, List.length_nil, Nat.add_zero, List.take_append_drop, Array.toArray_toList]
  | v :: vs, i, cs, h, ho, hs => by
    have ha : ∀ j, Addr.add ⟨g, o, none⟩ j = ⟨g, o + j, none⟩ := by intro j; unfold Addr.add; split <;> simp_all
    simp only [List.length_cons] at hs
    have hi : o + i < cs.size := by omega
    simp only [hsetN, ha, ho v (List.mem_cons_self ..), if_true, hset_same _ _ _ _ _ _, if_pos hi, Option.bind_some]
    rw [hsetN_at o vs (i + 1) _ h (fun u hu => ho u (List.mem_cons_of_mem _ hu)) (by simp; omega)]
    congr 3
    apply congrArg
    simp only [Array.toList_setIfInBounds, List.length_cons]
    have hl : o + i < cs.toList.length := by rw [Array.length_toList]; exact hi
    rw [show o + (i + 1) = (o + i) + 1 by omega, List.take_add_one, List.take_set, List.getElem?_set, if_pos rfl, if_pos hl, List.drop_set_of_lt (by omega)]
    have hx : (List.take (o + i) cs.toList).set (o + i) v = List.take (o + i) cs.toList := by
      rw [List.set_eq_of_length_le]
      rw [List.length_take]; omega
    rw [hx, show o + i + (vs.length + 1) = o + i + 1 + vs.length by omega]
    simp

/-- Bytes stored in a row. -/
def putAt (L : List UInt8) (o : Nat) (s : List UInt8) : List UInt8 := L.take o ++ s ++ L.drop (o + s.length)
theorem putAt_len {L : List UInt8} {o : Nat} {s : List UInt8} (h : o + s.length ≤ L.length) : (putAt L o s).length = L.length := by
  unfold putAt; simp only [List.length_append, List.length_take, List.length_drop]; omega
theorem one_bytes (s : List UInt8) : ∀ v ∈ s.map byte, v.oneCell' = true := by
  intro v hv
  obtain ⟨b, _, rfl⟩ := List.mem_map.1 hv
  rfl
theorem run_putAt {P : Program} {w : World} {g : Nat} {t : TypeId} {L : List UInt8} {sp : List Value} {h : List Res} (hs : Sat w (.cells g t (L.map byte ++ sp).toArray :: h)) (o : Nat) (s : List UInt8) (hl : o + s.length ≤ L.length) :
    ∃ w', (storeCells ⟨g, o, none⟩ (s.map byte)).run P w = .ok () w' ∧ Sat w' (.cells g t ((putAt L o s).map byte ++ sp).toArray :: h) := by
  have h1 := hsetN_at (t := t) (g := g) o (s.map byte) 0 (L.map byte ++ sp).toArray h (one_bytes s) (by simp; omega)
  obtain ⟨w', hr, hs'⟩ := hsetN_run (P := P) _ 0 _ _ w hs h1
  refine ⟨w', hr, ?_⟩
  have he : (List.take (o + 0) (L.map byte ++ sp).toArray.toList ++ s.map byte ++ List.drop (o + 0 + (s.map byte).length) (L.map byte ++ sp).toArray.toList) = (putAt L o s).map byte ++ sp := by
    unfold putAt
    simp only [List.toList_toArray, Nat.add_zero, List.length_map, List.map_append, List.map_take, List.map_drop]
    rw [List.take_append_of_le_length (by rw [List.length_map]; omega), List.drop_append_of_le_length (by rw [List.length_map]; omega)]
    simp only [List.append_assoc]
  rw [he] at hs'
  exact hs'
/-- A type of bytes. -/
theorem zero_cells {P : Program} {e : TypeId} (hz : zeroT P e = some (byte 0)) (w : World) : (zeroValue e).run P w = .ok (byte 0) w := run_zero hz w
theorem zeroCells_byte (n : Nat) : (Builtin.zeroCells (byte 0).cells n).toList = (List.replicate n (0 : UInt8)).map byte := by
  unfold Builtin.zeroCells
  have h1 : (byte 0).cells = #[byte 0] := rfl
  rw [h1]
  apply List.ext_getElem
  · simp
  · intro i h1 h2
    simp [Nat.mod_one]
/-- clear(p), p a part of a row of bytes. -/
theorem RRun_clear {P : Program} {t e ty : TypeId} {g o n c : Nat} {d : Option Nat} {ops rest : List Oper} {s : List Kn} {f : Fr} {h : List Res} {Q : Exit → Fr → List Res → Prop} {t' : TypeId} {L : List UInt8} {sp : List Value} (ht : P.underlying t = some (.slice e)) (hz : zeroT P e = some (byte 0)) (hn : 0 < n) (hl : o + n ≤ L.length)
    (hk : RL P ops rest s (put f d (.tuple #[])) (.cells g t' ((putAt L o (List.replicate n 0)).map byte ++ sp).toArray :: h) Q) : RRun P (sClear #[t] ty #[.slice (some ⟨g, o, none⟩) n c]) ⟨d, ops, rest, s⟩ f (.cells g t' (L.map byte ++ sp).toArray :: h) Q := by
  intro w hw
  obtain ⟨w', hr, hs'⟩ := run_putAt (P := P) hw o (List.replicate n 0) (by simpa using hl)
  refine ⟨_, w', _, ?_, hs', hk⟩
  obtain ⟨m, rfl⟩ : ∃ m, n = m + 1 := ⟨n - 1, by omega⟩
  have hzc := zeroCells_byte (m + 1)
  rw [hzc.symm] at hr
  simp [sClear, Builtin.clear_, run_underlying ht, zero_cells hz, hr]
/-- copy(p, s), s a text no longer than p. -/
theorem RRun_copy_str {P : Program} {t u e ty : TypeId} {b : Nat} {g o n c : Nat} {d : Option Nat} {ops rest : List Oper} {s : List Kn} {f : Fr} {h : List Res} {Q : Exit → Fr → List Res → Prop} {t' : TypeId} {L : List UInt8} {sp : List Value} (x : List UInt8) (ht : slT P t e 1 b) (hx : x.length ≤ n) (hl : o + x.length ≤ L.length)
    (hk : RL P ops rest s (put f d (.int .i64 (x.length : Int))) (.cells g t' ((putAt L o x).map byte ++ sp).toArray :: h) Q) : RRun P (sCopy #[t, u] ty #[.slice (some ⟨g, o, none⟩) n c, str x]) ⟨d, ops, rest, s⟩ f (.cells g t' (L.map byte ++ sp).toArray :: h) Q := by
  intro w hw
  obtain ⟨w', hr, hs'⟩ := run_putAt (P := P) hw o x hl
  refine ⟨_, w', _, ?_, hs', hk⟩
  obtain ⟨i, zv, ht1, ht2, ht3, hz, hb, hzs, _⟩ := ht
  have hsz : (ByteArray.mk x.toArray).size = x.length := by simp [ByteArray.size]
  have hmin : Nat.min x.length n = x.length := Nat.min_eq_left hx
  have hex : ((ByteArray.mk x.toArray).extract 0 x.length).data = x.toArray := by
    rw [Lib.extract_eq]
    simp
  have htk : List.take x.length (x.map byte) = x.map byte := List.take_of_length_le (by simp)
  simp [sCopy, str, Builtin.copy_, run_underlying ht1, Builtin.lenOf, Builtin.firstCells, sizeOf, typeInfo, ht2, hsz, hmin, hex, goInt]
  rw [show (List.map (fun b : UInt8 => Value.int .u8 (b.toNat : Int)) x) = x.map byte from rfl, htk, hr]
  simp
/-- string(b), b a part of a row of bytes. -/
theorem RRun_str_at {P : Program} {src dst e : TypeId} {g o n c : Nat} {d : Option Nat} {ops rest : List Oper} {s : List Kn} {f : Fr} {h : List Res} {Q : Exit → Fr → List Res → Prop} {t' : TypeId} {L : List UInt8} {sp : List Value} (hs : bytesT P src e) (hd : P.underlying dst = some .string) (hl : o + n ≤ L.length)
    (hk : RL P ops rest s (put f d (str ((L.drop o).take n))) (.cells g t' (L.map byte ++ sp).toArray :: h) Q) : RRun P (convert src dst (.slice (some ⟨g, o, none⟩) n c)) ⟨d, ops, rest, s⟩ f (.cells g t' (L.map byte ++ sp).toArray :: h) Q := by
  refine RRun_read (str ((L.drop o).take n)) (fun w hw => ?_) hk
  refine run_bytesStr w hs hd _ n _ _ (by rw [List.length_take, List.length_drop]; omega) fun i hi => ?_
  rw [List.length_take, List.length_drop] at hi
  rw [add_at, cell_cells hw.1 rfl, if_pos rfl]
  have hio : o + i < L.length := by omega
  simp only [List.getElem?_toArray]
  rw [List.getElem?_append_left (by rw [List.length_map]; omega), List.getElem?_map, List.getElem?_eq_getElem hio]
  simp
theorem loads_row {w : World} {g : Nat} {t : TypeId} {cs : List Value} {h : List Res} (hs : Sat w (.cells g t cs.toArray :: h)) (xs : List Value) (n : Nat) (hx : xs = cs.take n) : ∀ j v, xs[j]? = some v → w.cell? ((⟨g, 0, none⟩ : Addr).add j) = some v := by
  intro j v hv
  rw [add_at, cell_cells hs.1 rfl, if_pos rfl, Nat.zero_add]
  subst hx
  rw [List.getElem?_take] at hv
  split at hv
  · simpa using hv
  · cases hv
/-- append(b, make([]byte, k)...). -/
theorem RRun_append_zeros {P : Program} {t tn e ty : TypeId} {b : Nat} {g n c k : Nat} {kk kn : IntKind} {d : Option Nat} {ops rest : List Oper} {s : List Kn} {f : Fr} {h : List Res} {Q : Exit → Fr → List Res → Prop} {L : List UInt8} {sp : List Value} (ht : slT P t e 1 b) (htn : P.underlying tn = some (.int kn)) (hz : zeroT P e = some (byte 0))
    (hn : n = L.length) (hc : c = L.length + sp.length) (h0 : 0 < k) (hb0 : b = 1) (hsm : n + k ≤ 140737488355328)
    (hk : ∀ g' sp', (g' = g ∨ below g' (.cells g e #[] :: h)) → RL P ops rest s (put f d (.slice (some ⟨g', 0, none⟩) (n + k) (n + k + sp'.length))) (.cells g' e ((L ++ List.replicate k 0).map byte ++ sp').toArray :: h) Q) :
    RRun P (sAppend #[t, tn] ty #[.slice (some ⟨g, 0, none⟩) n c, .int kk (k : Int)]) ⟨d, ops, rest, s⟩ f (.cells g e (L.map byte ++ sp).toArray :: h) Q := by
  intro w hw
  obtain ⟨i, zv, ht1, ht2, ht3, hz1, hb, hzs, _⟩ := ht
  have hzz : zv = byte 0 := by simpa [zeroT, ht2, ht3] using hz
  subst hzz
  subst hb0 hn
  have hwr : IntKind.i64.wrap (k : Int) = (k : Int) := by rw [IntKind.wrap_i64]; omega
  have hneg : ¬ ((k : Int) < 0) := by omega
  have hk0 : k ≠ 0 := by omega
  have hbig : ¬ (281474976710656 < (k : Int)) := by omega
  have hzc := zeroCells_byte k
  by_cases hroom : L.length + k ≤ c
  · have h1 := hsetN_at (t := e) (g := g) L.length ((List.replicate k (0 : UInt8)).map byte) 0 (L.map byte ++ sp).toArray h (one_bytes _) (by simp; omega)
    obtain ⟨w', hr, hs'⟩ := hsetN_run (P := P) _ 0 _ _ w hw h1
    have he : (List.take (L.length + 0) (L.map byte ++ sp).toArray.toList ++ (List.replicate k (0 : UInt8)).map byte ++ List.drop (L.length + 0 + ((List.replicate k (0 : UInt8)).map byte).length) (L.map byte ++ sp).toArray.toList) = (L ++ List.replicate k 0).map byte ++ sp.drop k := by
      have e1 : List.take (L.length + 0) (L.map byte ++ sp) = L.map byte := by rw [Nat.add_zero]; exact List.take_left' (by simp)
      have e2 : List.drop (L.length + 0 + ((List.replicate k (0 : UInt8)).map byte).length) (L.map byte ++ sp) = sp.drop k := by
        rw [List.length_map, List.length_replicate, Nat.add_zero, ← List.drop_drop]
        congr 1
        exact List.drop_left' (by simp)
      rw [List.toList_toArray, e1, e2, List.map_append]
    rw [he] at hs'
    refine ⟨.slice (some ⟨g, 0, none⟩) (L.length + k) c, w', _, ?_, hs', ?_⟩
    · rw [← hzc] at hr
      simp [sAppend, Builtin.append_, run_underlying ht1, run_underlying htn, sizeOf, typeInfo, zeroValue, ht2, ht3, hz1, hb, asInt, asIntOf, hwr, hneg, hk0, hbig, hroom, hr, add_at]
    · have := hk g (sp.drop k) (.inl rfl)
      rw [show L.length + k + (sp.drop k).length = c by rw [List.length_drop]; omega] at this
      exact this
  · have hgc := grownCap_ge w (L.length + k) c e
    have hfit : ¬ (281474976710656 < Builtin.nextslicecap (L.length + k) c * 1) := by
      have := growslice_fits (need := L.length + k) (old := c) (bytes := 1) (by omega) (by omega)
      omega
    rw [Nat.mul_one] at hfit
    have h63 : ¬ (9223372036854775807 < ((L.length : Int) + (k : Int))) := by omega
    have hzc2 := zeroCells_byte (grownCap w (L.length + k) c e - (L.length + k))
    unfold grownCap at hzc2
    have hfo := run_firstCells_some (P := P) w.drew 1 L.length ⟨g, 0, none⟩ L.length c (L.map byte) (by simp) (by
      have := loads_row (h := h) (cs := L.map byte ++ sp) (w := w.drew) (hw.ext (Ext.drew w)) (L.map byte) L.length (by rw [List.take_left' (by simp)])
      exact this)
    have hs' := (hw.ext (Ext.drew w)).2.2.2.alloc e ((L ++ List.replicate k 0).map byte ++ (List.replicate (grownCap w (L.length + k) c e - (L.length + k)) (0 : UInt8)).map byte).toArray
    have hbel : below w.heap.size (.cells g e #[] :: h) := ⟨hw.2.1 g rfl, hw.2.2.2.below⟩
    refine ⟨.slice (some ⟨w.heap.size, 0, none⟩) (L.length + k) (grownCap w (L.length + k) c e), _, _, ?_, hs', ?_⟩
    · simp [sAppend, Builtin.append_, run_underlying ht1, run_underlying htn, sizeOf, typeInfo, zeroValue, ht2, ht3, hz1, hb, asInt, asIntOf, hwr, hneg, hk0, hbig, hroom, h63, hfit, Question.forced, hfo, newRow, grownCap]
      congr 2
      apply Array.ext'
      simp only [Array.toList_append, List.toList_toArray, zeroCells_byte, List.map_replicate, List.append_assoc, List.replicate_append_replicate]
    · have := hk w.heap.size ((List.replicate (grownCap w (L.length + k) c e - (L.length + k)) (0 : UInt8)).map byte) (.inr hbel)
      rw [show L.length + k + ((List.replicate (grownCap w (L.length + k) c e - (L.length + k)) (0 : UInt8)).map byte).length = grownCap w (L.length + k) c e by rw [List.length_map, List.length_replicate]; omega] at this
      exact this
end H
end Go.Proofs.Ytldidoaagijnhaa
