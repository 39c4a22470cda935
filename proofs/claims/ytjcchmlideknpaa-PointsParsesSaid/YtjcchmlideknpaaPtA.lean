/- points: the walks: whether points are right. -/
import Derived.Test.YtjcchmlideknpaaVintTFY5
import Derived.Test.YtjcchmlideknpaaCrcF
import Derived.Test.YtjcchmlideknpaaPtM
import Derived.Test.YtjcchmlideknpaaTokDY5
import Derived.Test.YtjcchmlideknpaaAgg
import Derived.Test.YtjcchmlideknpaaJoin
import Derived.Test.YtjcchmlideknpaaSegF
import Derived.Test.YtjcchmlideknpaaBytes
import Derived.Lib.AppendStr
namespace Go.Proofs.Ytjcchmlideknpaa
set_option linter.unusedSimpArgs false
set_option linter.unusedVariables false
namespace H
open Go
theorem strCells_bytes (x : List UInt8) : Go.Lib.strCells ⟨x.toArray⟩ = x.map byte := by
  unfold Go.Lib.strCells; simp [byte]
/-- append(b, s...), s a string. -/
theorem RRun_append_str {P : Program} {t u ty e : TypeId} {d : Option Nat} {ops rest : List Oper} {s : List Kn} {f : Fr} {h h' : List Res} {Q : Exit → Fr → List Res → Prop} {v : Value} {n : Nat} {xs x : List UInt8} (ht : slT P t e 1 1) (hu : P.underlying u = some .string) (hz : zeroT P e = some (byte 0))
    (hh : ∀ w, Sat w h → Sat w (Own e 1 v n (xs.map byte) :: h')) (hn : n + x.length ≤ 140737488355328)
    (hk : ∀ a' c', n + x.length ≤ c' → RL P ops rest s (put f d (.slice a' (n + x.length) c')) (Own e 1 (.slice a' (n + x.length) c') (n + x.length) ((xs ++ x).map byte) :: h') Q) :
    RRun P (sAppend #[t, u] ty #[v, str x]) ⟨d, ops, rest, s⟩ f h Q := by
  intro w hw
  have hs := hh w hw
  obtain ⟨i, zv, ht1, ht2, ht3, hsz, hb, hzs, hz0⟩ := ht
  have hzz : zv = byte 0 := by simpa [zeroT, ht2, ht3] using hz
  subst hzz
  have hxs : (⟨x.toArray⟩ : ByteArray).size = x.length := rfl
  obtain ⟨v', w', hr, ho, hg, _⟩ := Go.Lib.run_append_own_string (P := P) w 0 t u ty e i ht1 hu ht2 ht3 hsz hb v n (xs.map byte) hs.1 ⟨x.toArray⟩ (by rw [hxs]; simp only [maxLen]; omega) (by rw [hxs]; omega) (Nat.zero_le _)
  rw [hxs, strCells_bytes, ← List.map_append] at ho
  have hv : v'.ownBlock = v.ownBlock ∨ ∀ k, v'.ownBlock = some k → w.heap.size ≤ k := by
    rcases hs.1.2 with ⟨rfl, rfl⟩ | ⟨g, cap, cur, rfl, _, hgg, hnc, hcm, hcs, htake⟩
    · by_cases hm : x.length = 0
      · obtain rfl : x = [] := List.eq_nil_of_length_eq_zero hm
        have : (Builtin.append_ #[t, u] ty #[.slice none 0 0, .string ⟨([] : List UInt8).toArray⟩]).run P w = .ok (.slice none 0 0) w := by
          have hf := Go.Lib.run_firstCells_string (P := P) w 1 ⟨([] : List UInt8).toArray⟩
          have hz' : (⟨([] : List UInt8).toArray⟩ : ByteArray).size = 0 := rfl
          rw [hz'] at hf
          simp [Builtin.append_, run_underlying ht1, run_underlying hu, sizeOf, typeInfo, ht2, hsz, Builtin.lenOf, hz', hf]
        rw [this] at hr
        injection hr with hr
        cases hr
        exact .inl rfl
      · have := run_append_nil_string (P := P) w t u ty e i (byte 0) ht1 hu ht2 ht3 ⟨x.toArray⟩ (by rw [hxs]; omega) (by rw [hxs]; omega) (by rw [hxs, hb]; omega)
        rw [this] at hr
        injection hr with hr
        right
        intro k hk
        subst hr
        simp only [Value.ownBlock, Option.some.injEq] at hk
        omega
    · by_cases hroom : n + x.length ≤ cap
      · have hcs' : cur.size = cap := by simpa using hcs
        have := Go.Lib.run_append_room_string (P := P) w t u ty e i ht1 hu ht2 hsz g n cap cur hgg ⟨x.toArray⟩ (by rw [hxs]; exact hroom) (by rw [hxs]; omega)
        rw [this] at hr
        injection hr with hr
        subst hr
        exact .inl rfl
      · have holds : ∀ j u, (xs.map byte)[j]? = some u → w.cell? ((⟨g, 0, none⟩ : Addr).add j) = some u := hs.1.cells (g := g) rfl
        have := Go.Lib.run_append_grow_string (P := P) w t u ty e i (byte 0) ht1 hu ht2 ht3 ⟨g, 0, none⟩ n cap (xs.map byte) (by rw [hsz]; exact hs.1.1) holds ⟨x.toArray⟩ (by rw [hxs]; omega) (by rw [hxs]; omega) (by rw [hxs, hb]; exact growslice_fits (by omega) (by omega))
        rw [this] at hr
        injection hr with hr
        right
        intro k hk
        subst hr
        simp only [Value.ownBlock, Option.some.injEq] at hk
        omega
  obtain ⟨a', c', rfl, hc⟩ := own_slice ho
  exact ⟨_, w', _, hr, hs.grown hg ho hv, hk a' c' hc⟩
end H
open H
theorem pts_sl : slT Try.prog 22 46 5 48 := slT_of (by kernel_rfl)
theorem pt_at {w : World} {a : Option Addr} {l : List Pt.P} (hr : Rd w a l.length 5 (ofL Pt.ptC Pt.p0 l)) (i : Nat) (hi : i < l.length) :
    ∃ b o, a = some ⟨b, o, none⟩ ∧ b < w.heap.size ∧ cellsN w ⟨b, o + i * 5, none⟩ 5 = some #[.int .i64 (l.getD i Pt.p0).bit, .int .i64 (l.getD i Pt.p0).out, .int .i64 (l.getD i Pt.p0).tok, .int .i64 (l.getD i Pt.p0).frm, str (l.getD i Pt.p0).win] ∧
      w.cell? ⟨b, o + i * 5 + 1, none⟩ = some (.int .i64 (l.getD i Pt.p0).out) := by
  obtain ⟨b, o, e, hb, hc, hj⟩ := hr.at_ i hi
  exact ⟨b, o, e, hb, hc, hj 1 (by omega)⟩
theorem pts_alone (p : Pt.P) (hp : Pt.InR p) (w : World) : Does Try.prog 30 #[.agg #[.int .i64 p.bit, .int .i64 p.out, .int .i64 p.tok, .int .i64 p.frm, str p.win]] w fun v w' => v = .bool (decide (Pt.Alone p)) ∧ Ext [] w w' := by
  refine does (args := [.agg #[.int .i64 p.bit, .int .i64 p.out, .int .i64 p.tok, .int .i64 p.frm, str p.win]]) Try.func30 rfl (by kernel_rfl) (by kernel_rfl) rfl ent_30 (Sat.start w []) ?_; intro QV hQ
  obtain ⟨⟨hb1, hb2⟩, ⟨ho1, ho2⟩, ⟨ht1, ht2⟩, ⟨hf1, hf2⟩, hw⟩ := hp
  simp only [maxLen] at hw
  have hR : Pt.Alone p ↔ 0 ≤ p.bit ∧ 0 ≤ p.out ∧ 0 ≤ p.tok ∧ 0 ≤ p.frm ∧ p.frm ≤ p.out ∧ p.out - p.frm ≤ 4096 ∧ (p.win.length : Int) = min p.out 32768 := Iff.rfl
  simp -implicitDefEqProofs (disch := omega) only [go_sem]
  refine RNew_intro fun g hg => ?_
  simp -implicitDefEqProofs (disch := omega) only [go_sem]
  by_cases h : 0 ≤ p.bit ∧ 0 ≤ p.out ∧ 0 ≤ p.tok ∧ 0 ≤ p.frm ∧ p.frm ≤ p.out
  · obtain ⟨h1, h2, h3, h4, h5⟩ := h
    by_cases h6 : p.out - p.frm ≤ 4096
    · simp -implicitDefEqProofs (disch := omega) only [go_sem, h1, h2, h3, h4, h5, h6]
      exact hQ _ _ fun w' hs => ⟨by rw [Value.bool.injEq, decide_eq_decide, hR]; omega, hs.anchor (by simp)⟩
    · simp -implicitDefEqProofs (disch := omega) only [go_sem, h1, h2, h3, h4, h5, h6]
      exact hQ _ _ fun w' hs => ⟨by rw [decide_eq_false]; rw [hR]; omega, hs.anchor (by simp)⟩
  · have hf : decide (Pt.Alone p) = false := decide_eq_false (by rw [hR]; omega)
    rw [hf] at hQ
    by_cases h1 : 0 ≤ p.bit
    rotate_left
    · simp -implicitDefEqProofs (disch := omega) only [go_sem, h1]
      exact hQ _ _ fun w' hs => ⟨rfl, hs.anchor (by simp)⟩
    by_cases h2 : 0 ≤ p.out
    rotate_left
    · simp -implicitDefEqProofs (disch := omega) only [go_sem, h1, h2]
      exact hQ _ _ fun w' hs => ⟨rfl, hs.anchor (by simp)⟩
    by_cases h3 : 0 ≤ p.tok
    rotate_left
    · simp -implicitDefEqProofs (disch := omega) only [go_sem, h1, h2, h3]
      exact hQ _ _ fun w' hs => ⟨rfl, hs.anchor (by simp)⟩
    by_cases h4 : 0 ≤ p.frm
    rotate_left
    · simp -implicitDefEqProofs (disch := omega) only [go_sem, h1, h2, h3, h4]
      exact hQ _ _ fun w' hs => ⟨rfl, hs.anchor (by simp)⟩
    have h5 : ¬ p.frm ≤ p.out := by omega
    simp -implicitDefEqProofs (disch := omega) only [go_sem, h1, h2, h3, h4, h5]
    exact hQ _ _ fun w' hs => ⟨rfl, hs.anchor (by simp)⟩
theorem pts_follows (a b : Pt.P) (w : World) : Does Try.prog 31 #[.agg #[.int .i64 a.bit, .int .i64 a.out, .int .i64 a.tok, .int .i64 a.frm, str a.win], .agg #[.int .i64 b.bit, .int .i64 b.out, .int .i64 b.tok, .int .i64 b.frm, str b.win]] w fun v w' => v = .bool (decide (Pt.Follows a b)) ∧ Ext [] w w' := by
  refine does (args := [.agg #[.int .i64 a.bit, .int .i64 a.out, .int .i64 a.tok, .int .i64 a.frm, str a.win], .agg #[.int .i64 b.bit, .int .i64 b.out, .int .i64 b.tok, .int .i64 b.frm, str b.win]]) Try.func31 rfl (by kernel_rfl) (by kernel_rfl) rfl ent_31 (Sat.start w []) ?_; intro QV hQ
  have hR : Pt.Follows a b ↔ a.bit < b.bit ∧ a.out < b.out ∧ a.tok ≤ b.tok ∧ a.frm ≤ b.frm := Iff.rfl
  simp -implicitDefEqProofs (disch := omega) only [go_sem]
  refine RNew_intro fun g1 hg1 => ?_
  simp -implicitDefEqProofs (disch := omega) only [go_sem]
  refine RNew_intro fun g2 hg2 => ?_
  simp only [below_cons, below_nil, under_anchor, under_cells, and_true] at hg2
  have ng : g1 ≠ g2 := Nat.ne_of_lt hg2.1
  simp -implicitDefEqProofs (disch := omega) only [go_sem]
  by_cases h1 : a.bit < b.bit
  rotate_left
  · simp -implicitDefEqProofs (disch := omega) only [go_sem, h1]
    exact hQ _ _ fun w' hs => ⟨by rw [decide_eq_false]; rw [hR]; omega, hs.anchor (by simp)⟩
  by_cases h2 : a.out < b.out
  rotate_left
  · simp -implicitDefEqProofs (disch := omega) only [go_sem, h1, h2]
    exact hQ _ _ fun w' hs => ⟨by rw [decide_eq_false]; rw [hR]; omega, hs.anchor (by simp)⟩
  by_cases h3 : a.tok ≤ b.tok
  rotate_left
  · simp -implicitDefEqProofs (disch := omega) only [go_sem, h1, h2, h3]
    exact hQ _ _ fun w' hs => ⟨by rw [decide_eq_false]; rw [hR]; omega, hs.anchor (by simp)⟩
  simp -implicitDefEqProofs (disch := omega) only [go_sem, h1, h2, h3]
  exact hQ _ _ fun w' hs => ⟨by rw [Value.bool.injEq, decide_eq_decide, hR]; omega, hs.anchor (by simp)⟩
end Go.Proofs.Ytjcchmlideknpaa
