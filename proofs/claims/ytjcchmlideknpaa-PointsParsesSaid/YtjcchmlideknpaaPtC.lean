/- points: the walks: numbers laid down, sums, the bytes of points. -/
import Derived.Test.YtjcchmlideknpaaPtB
namespace Go.Proofs.Ytjcchmlideknpaa
set_option linter.unusedSimpArgs false
set_option linter.unusedVariables false
namespace H
open Go
/-- append(b, s...), s a text, onto a row of bytes. -/
theorem RRun_append_text {P : Program} {t u e ty : TypeId} {g n c : Nat} {d : Option Nat} {ops rest : List Oper} {s : List Kn} {f : Fr} {h h' : List Res} {Q : Exit → Fr → List Res → Prop} {L x : List UInt8} {sp : List Value} (ht : slT P t e 1 1) (hu : P.underlying u = some .string) (hz : zeroT P e = some (byte 0))
    (hh : ∀ w, Sat w h → Sat w (.cells g e (L.map byte ++ sp).toArray :: h')) (hn : n = L.length) (hc : c = L.length + sp.length) (hsm : n + x.length ≤ 140737488355328)
    (hk : ∀ g' n' c' sp', (g' = g ∨ below g' h) → n' = (L ++ x).length → c' = (L ++ x).length + sp'.length → RL P ops rest s (put f d (.slice (some ⟨g', 0, none⟩) n' c')) (.cells g' e ((L ++ x).map byte ++ sp').toArray :: h') Q) :
    RRun P (sAppend #[t, u] ty #[.slice (some ⟨g, 0, none⟩) n c, str x]) ⟨d, ops, rest, s⟩ f h Q := by
  intro w hw0
  have hw := hh w hw0
  obtain ⟨i, zv, ht1, ht2, ht3, hz1, hb, hzs, _⟩ := ht
  have hzz : zv = byte 0 := by simpa [zeroT, ht2, ht3] using hz
  subst hzz
  subst hn
  have hxs : (⟨x.toArray⟩ : ByteArray).size = x.length := rfl
  have hf := Go.Lib.run_firstCells_string (P := P) w 1 ⟨x.toArray⟩
  rw [strCells_bytes, hxs] at hf
  by_cases hroom : L.length + x.length ≤ c
  · have h1 := hsetN_at (t := e) (g := g) L.length (x.map byte) 0 (L.map byte ++ sp).toArray h' (one_bytes _) (by simp; omega)
    obtain ⟨w', hr, hs'⟩ := hsetN_run (P := P) _ 0 _ _ w hw h1
    have he : (List.take (L.length + 0) (L.map byte ++ sp).toArray.toList ++ x.map byte ++ List.drop (L.length + 0 + (x.map byte).length) (L.map byte ++ sp).toArray.toList) = (L ++ x).map byte ++ sp.drop x.length := by
      have e1 : List.take (L.length + 0) (L.map byte ++ sp) = L.map byte := by rw [Nat.add_zero]; exact List.take_left' (by simp)
      have e2 : List.drop (L.length + 0 + (x.map byte).length) (L.map byte ++ sp) = sp.drop x.length := by
        rw [List.length_map, Nat.add_zero, ← List.drop_drop]
        congr 1
        exact List.drop_left' (by simp)
      rw [List.toList_toArray, e1, e2, List.map_append]
    rw [he] at hs'
    refine ⟨.slice (some ⟨g, 0, none⟩) (L.length + x.length) c, w', _, ?_, hs', ?_⟩
    · simp [sAppend, Builtin.append_, run_underlying ht1, run_underlying hu, sizeOf, typeInfo, ht2, hz1, Builtin.lenOf, str, hxs, hroom, hf, hr, add_at]
    · exact hk g _ _ (sp.drop x.length) (.inl rfl) (by rw [List.length_append]) (by rw [List.length_append, List.length_drop]; omega)
  · have hgc := grownCap_ge w (L.length + x.length) c e
    have hr := Go.Lib.run_append_grow_string (P := P) w t u ty e i (byte 0) ht1 hu ht2 ht3 ⟨g, 0, none⟩ L.length c (L.map byte) (by rw [hz1]; simp) (loads_row (h := h') (cs := L.map byte ++ sp) hw (L.map byte) L.length (by rw [List.take_left' (by simp)])) ⟨x.toArray⟩ (by rw [hxs]; omega) (by rw [hxs]; omega) (by rw [hxs, hb]; exact growslice_fits (by omega) (by omega))
    rw [strCells_bytes, hxs] at hr
    have hs' := (hw.ext (Ext.drew w)).2.2.2.alloc e ((L ++ x).map byte ++ (List.replicate (grownCap w (L.length + x.length) c e - (L.length + x.length)) (0 : UInt8)).map byte).toArray
    refine ⟨.slice (some ⟨w.heap.size, 0, none⟩) (L.length + x.length) (grownCap w (L.length + x.length) c e), _, _, hr.trans ?_, hs', ?_⟩
    · congr 2
      congr 1
      apply Array.ext'
      simp only [Array.toList_append, List.toList_toArray, zeroCells_byte, List.map_append]
    · exact hk w.heap.size _ _ ((List.replicate (grownCap w (L.length + x.length) c e - (L.length + x.length)) (0 : UInt8)).map byte) (.inr hw0.below) (by rw [List.length_append]) (by rw [List.length_map, List.length_replicate, List.length_append]; omega)
end H
open H
theorem ints_sl : slT Try.prog 86 3 1 8 := slT_of (by kernel_rfl)
def iv (l : List Int) : List Value := l.map (.int .i64)
theorem iv_rd {w : World} {h : List Res} {g : Nat} {t : TypeId} {l : List Int} (hs : Sat w h) (hm : Res.cells g t (List.toArray (iv l)) ∈ h) : Rd w (some ⟨g, 0, none⟩) l.length 1 (ofL (fun x => [.int .i64 x]) 0 l) := by
  refine rd_cells (hs.mem _ hm) 0 l.length 1 _ (hs.lt _ hm g rfl) (fun i _ => rfl) fun i j hi hj => ?_
  obtain rfl : j = 0 := by omega
  rw [List.getElem?_toArray]
  simp [iv, ofL, List.getElem?_eq_getElem hi]
theorem int_at {w : World} {a : Option Addr} {l : List Int} (hr : Rd w a l.length 1 (ofL (fun x => [.int .i64 x]) 0 l)) (i : Nat) (hi : i < l.length) : ∃ b o, a = some ⟨b, o, none⟩ ∧ b < w.heap.size ∧ w.cell? ⟨b, o + i, none⟩ = some (.int .i64 (l.getD i 0)) := by
  obtain ⟨b, o, e, hb, hc, hj⟩ := hr.at_ i hi
  have := hj 0 (by omega)
  rw [Nat.mul_one, Nat.add_zero] at this
  exact ⟨b, o, e, hb, this⟩
theorem putS_take {l : List Int} {i : Nat} (h : i < l.length) : Pt.putS (l.take (i + 1)) = Pt.putS (l.take i) ++ (Vint.put (l.getD i 0)).1 := by
  rw [List.take_add_one, List.getElem?_eq_getElem h, Option.toList_some, Pt.putS_snoc, List.getD_eq_getElem?_getD, List.getElem?_eq_getElem h]; rfl
set_option maxHeartbeats 1000000 in
theorem pts_put (l : List Int) (a : Option Addr) (c : Nat) (hl : l.length ≤ 1000) (hin : ∀ n ∈ l, Pt.In64 n) (w : World) (hr : Rd w a l.length 1 (ofL (fun x => [.int .i64 x]) 0 l)) : Does Try.prog 25 #[.slice a l.length c] w fun v w' => v = str (Pt.putS l) ∧ Ext [] w w' := by
  refine does (args := [.slice a l.length c]) Try.func25 rfl (by kernel_rfl) (by kernel_rfl) rfl ent_25 (Sat.start w []) ?_; intro QV hQ
  simp -implicitDefEqProofs (disch := omega) only [go_sem]
  refine RLoop_intro (fun f h => ∃ (i : Nat), i ≤ l.length ∧ f 3 = str (Pt.putS (l.take i)) ∧ f 8 = .slice a l.length c ∧ f 9 = .int .i64 (l.length : Int) ∧ f 10 = .int .i64 (i : Int) ∧ h = [.anchor w []]) (fun f _ => (l.length - ival (f 10)).toNat) ?_ ?_
  · exact ⟨0, by omega, by (first | (simp -implicitDefEqProofs (disch := omega) only [go_sem]; done) | (simp -implicitDefEqProofs (disch := omega) only [go_sem]; rfl)), by (first | (simp -implicitDefEqProofs (disch := omega) only [go_sem]; done) | (simp -implicitDefEqProofs (disch := omega) only [go_sem]; rfl)), by (first | (simp -implicitDefEqProofs (disch := omega) only [go_sem]; done) | (simp -implicitDefEqProofs (disch := omega) only [go_sem]; rfl)), by (first | (simp -implicitDefEqProofs (disch := omega) only [go_sem]; done) | (simp -implicitDefEqProofs (disch := omega) only [go_sem]; rfl)), rfl⟩
  rintro f h ⟨i, hi, e3, e8, e9, e10, rfl⟩ Q' hQ'
  by_cases hil : i < l.length
  · have g1 : (i : Int) < (l.length : Int) := by omega
    obtain ⟨b, o, rfl, hbb, hc⟩ := int_at hr i hil
    have hnext := putS_take hil
    have hlen := Pt.putS_len (l.take i) fun n hn => (hin n (List.mem_of_mem_take hn)).2
    rw [List.length_take] at hlen
    have hbi := hin (l.getD i 0) (by rw [List.getD_eq_getElem?_getD, List.getElem?_eq_getElem hil]; exact List.getElem_mem _)
    generalize l.getD i 0 = x at *
    have hlen2 := Pt.put_len hbi.2
    simp -implicitDefEqProofs (disch := omega) only [go_sem, e3, e8, e9, e10, g1, hc, decide_true]
    refine RCall_eq (vint_put x hbi) ?_
    simp -implicitDefEqProofs (disch := omega) only [go_sem, e3, e8, e9, e10]
    refine hQ' _ _ _ (fun _ hs => hs) ⟨i + 1, by omega, ?_, ?_, ?_, ?_, rfl⟩ ?_
    · rw [hnext]; (first | (simp -implicitDefEqProofs (disch := omega) only [go_sem, e3, e8, e9, e10]; done) | (simp -implicitDefEqProofs (disch := omega) only [go_sem, e3, e8, e9, e10]; rfl))
    · (first | (simp -implicitDefEqProofs (disch := omega) only [go_sem, e3, e8, e9, e10]; done) | (simp -implicitDefEqProofs (disch := omega) only [go_sem, e3, e8, e9, e10]; rfl))
    · (first | (simp -implicitDefEqProofs (disch := omega) only [go_sem, e3, e8, e9, e10]; done) | (simp -implicitDefEqProofs (disch := omega) only [go_sem, e3, e8, e9, e10]; rfl))
    · (first | (simp -implicitDefEqProofs (disch := omega) only [go_sem, e3, e8, e9, e10]; done) | (simp -implicitDefEqProofs (disch := omega) only [go_sem, e3, e8, e9, e10]; rfl))
    · simp -implicitDefEqProofs (disch := omega) only [go_sem, e3, e8, e9, e10]; omega
  · have g1 : ¬ (i : Int) < (l.length : Int) := by omega
    rw [List.take_of_length_le (by omega)] at e3
    simp -implicitDefEqProofs (disch := omega) only [go_sem, e3, e8, e9, e10, g1, decide_false]
    exact hQ _ _ fun w' hs => ⟨rfl, hs.anchor (by simp)⟩
theorem crc_fix (s : List UInt8) : (Vint.fixed ((Crc.of s).toNat : Int) 4).1 = Pt.sumB s := by
  have h := (Crc.of s).isLt
  unfold Vint.fixed Pt.sumB
  rw [if_neg (by unfold Vint.wide; omega), if_pos]
  · rfl
  · rw [Int.toNat_natCast]
    exact Nat.div_eq_of_lt h
theorem pts_sum (s : List UInt8) (hl : s.length ≤ 9223372036854775807) (w : World) : Does Try.prog 27 #[str s] w fun v w' => v = str (Pt.sumB s) ∧ Ext [] w w' := by
  refine does (args := [str s]) Try.func27 rfl (by kernel_rfl) (by kernel_rfl) rfl ent_27 (Sat.start w []) ?_; intro QV hQ
  have hlt := (Crc.of s).isLt
  simp -implicitDefEqProofs (disch := omega) only [go_sem]
  refine RCall_eq (crc_of s hl) ?_
  simp -implicitDefEqProofs (disch := omega) only [go_sem]
  refine RCall_eq (vint_fixed _ 4 (by omega)) ?_
  simp -implicitDefEqProofs (disch := omega) only [go_sem]
  exact hQ _ _ fun w' hs => ⟨by rw [crc_fix], hs.anchor (by simp)⟩
theorem flat_take {l : List Pt.P} {i : Nat} (h : i < l.length) : (l.take (i + 1)).flatMap Pt.ptB = (l.take i).flatMap Pt.ptB ++ Pt.ptB (l.getD i Pt.p0) := by
  rw [List.take_add_one, List.getElem?_eq_getElem h, Option.toList_some, List.flatMap_append, List.getD_eq_getElem?_getD, List.getElem?_eq_getElem h]; simp
end Go.Proofs.Ytjcchmlideknpaa
