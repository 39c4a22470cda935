/- node: the walk: numbers at a place. -/
import Derived.Test.YtlmbebnpnnkhmaaNodeE
namespace Go.Proofs.Ytlmbebnpnnkhmaa
set_option linter.unusedSimpArgs false
set_option linter.unusedVariables false
open H
namespace Nd
def iv (l : List Int) : List Value := l.map (.int .i64)
theorem iv_len (l : List Int) : (iv l).length = l.length := by simp [iv]
def offs (at_ : Int) (ws : List Int) (i : Nat) : Int := at_ + (ws.take i).sum
def getF (s : List UInt8) (at_ : Int) (ws : List Int) (i : Nat) : List Int := (List.range i).map fun j => nm s (offs at_ ws j) (ws.getD j 0)
theorem getF_len (s : List UInt8) (at_ : Int) (ws : List Int) (i : Nat) : (getF s at_ ws i).length = i := by simp [getF]
theorem getF_succ (s : List UInt8) (at_ : Int) (ws : List Int) (i : Nat) : iv (getF s at_ ws (i + 1)) = iv (getF s at_ ws i) ++ [.int .i64 (nm s (offs at_ ws i) (ws.getD i 0))] := by
  unfold iv getF; rw [List.range_succ]; simp
theorem offs_succ (at_ : Int) (ws : List Int) (i : Nat) (h : i < ws.length) : offs at_ ws (i + 1) = offs at_ ws i + ws.getD i 0 := by
  unfold offs
  rw [List.take_add_one, List.getElem?_eq_getElem h, Option.toList_some, List.sum_append, List.getD_eq_getElem?_getD, List.getElem?_eq_getElem h]
  simp only [List.sum_cons, List.sum_nil, Option.getD_some]; omega
theorem sum_le : ∀ (ws : List Int), (∀ x ∈ ws, 0 ≤ x ∧ x ≤ 8) → 0 ≤ ws.sum ∧ ws.sum ≤ 8 * ws.length
  | [], _ => by simp
  | x :: ws, h => by
    have h1 := h x (by simp)
    have h2 := sum_le ws fun y hy => h y (by simp [hy])
    rw [List.sum_cons, List.length_cons]; omega
theorem offs_le {at_ : Int} {ws : List Int} (i : Nat) (h : ∀ x ∈ ws, 0 ≤ x ∧ x ≤ 8) (hl : ws.length ≤ 100) (ha : 0 ≤ at_ ∧ at_ ≤ 1000000) : 0 ≤ offs at_ ws i ∧ offs at_ ws i ≤ 1000800 := by
  have := sum_le (ws.take i) fun x hx => h x (List.mem_of_mem_take hx)
  have hl2 : (ws.take i).length ≤ ws.length := by rw [List.length_take]; omega
  unfold offs; omega
end Nd
theorem gints_sl : slT Try.prog 69 3 1 8 := slT_of (by kernel_rfl)
theorem gint_at {w : World} {a : Option Addr} {l : List Int} (hr : Rd w a l.length 1 (ofL (fun x => [.int .i64 x]) 0 l)) (i : Nat) (hi : i < l.length) : ∃ b o, a = some ⟨b, o, none⟩ ∧ b < w.heap.size ∧ w.cell? ⟨b, o + i, none⟩ = some (.int .i64 (l.getD i 0)) := by
  obtain ⟨b, o, e, hb, hc, hj⟩ := hr.at_ i hi
  exact ⟨b, o, e, hb, by have := hj 0 (by omega); rw [Nat.mul_one, Nat.add_zero] at this; exact this⟩
/-- A new row of ints, not empty, as cells. -/
def NewRow (v : Value) (rs : List Res) (l : List Int) : Prop := ∃ g c sp, v = .slice (some ⟨g, 0, none⟩) l.length c ∧ rs = [.cells g 3 (List.toArray (Nd.iv l ++ sp))]
set_option maxRecDepth 20000 in
set_option maxHeartbeats 2000000 in
theorem node_get (s : List UInt8) (hsl : s.length ≤ 9223372036854775807) (at_ : Int) (ws : List Int) (wa : Option Addr) (wc : Nat) (ha : 0 ≤ at_ ∧ at_ ≤ 1000000) (hws : ∀ x ∈ ws, 0 ≤ x ∧ x ≤ 8) (hl : ws.length ≤ 100) (hpos : 0 < ws.length) (w : World) (hr : Rd w wa ws.length 1 (ofL (fun x => [.int .i64 x]) 0 ws)) :
    Does Try.prog 38 #[str s, .int .i64 at_, .slice wa ws.length wc] w fun v w' => ∃ rs, Sat w' (rs ++ [.anchor w []]) ∧ NewRow v rs (Nd.getF s at_ ws ws.length) := by
  refine does (args := [str s, .int .i64 at_, .slice wa ws.length wc]) Try.func38 rfl (by kernel_rfl) (by kernel_rfl) rfl ent_38 (Sat.start w []) ?_; intro QV hQ
  simp -implicitDefEqProofs (disch := omega) only [go_sem]
  refine RLoop_from (fun f h => ∃ (i : Nat) (a' : Option Addr) (c' : Nat), i ≤ ws.length ∧ i ≤ c' ∧ f 0 = str s ∧ f 1 = .int .i64 (Nd.offs at_ ws i) ∧ f 7 = .slice a' i c' ∧ f 12 = .slice wa ws.length wc ∧ f 13 = .int .i64 (ws.length : Int) ∧ f 14 = .int .i64 (i : Int) ∧ h = [Own 3 1 (.slice a' i c') i (Nd.iv (Nd.getF s at_ ws i)), .anchor w []]) (fun f _ => (ws.length - ival (f 14)).toNat) ?_ ?_
  · exact fun w1 hs => ⟨_, hs.own_nil 3 1, 0, none, 0, by omega, by omega, by (first | (simp -implicitDefEqProofs (disch := omega) only [go_sem]; done) | (simp -implicitDefEqProofs (disch := omega) only [go_sem]; rfl)), by (have e : Nd.offs at_ ws 0 = at_ := by simp [Nd.offs]); rw [e]; (first | (simp -implicitDefEqProofs (disch := omega) only [go_sem]; done) | (simp -implicitDefEqProofs (disch := omega) only [go_sem]; rfl)), by (first | (simp -implicitDefEqProofs (disch := omega) only [go_sem]; done) | (simp -implicitDefEqProofs (disch := omega) only [go_sem]; rfl)), by (first | (simp -implicitDefEqProofs (disch := omega) only [go_sem]; done) | (simp -implicitDefEqProofs (disch := omega) only [go_sem]; rfl)), by (first | (simp -implicitDefEqProofs (disch := omega) only [go_sem]; done) | (simp -implicitDefEqProofs (disch := omega) only [go_sem]; rfl)), by (first | (simp -implicitDefEqProofs (disch := omega) only [go_sem]; done) | (simp -implicitDefEqProofs (disch := omega) only [go_sem]; rfl)), rfl⟩
  rintro f h ⟨i, a', c', hi, hc', e0, e1, e7, e12, e13, e14, rfl⟩ Q' hQ'
  by_cases hil : i < ws.length
  · have g1 : (i : Int) < (ws.length : Int) := by omega
    obtain ⟨b, o, rfl, hbb, hc⟩ := gint_at hr i hil
    have hoff := Nd.offs_le (at_ := at_) i hws hl ha
    have hnext := Nd.offs_succ at_ ws i hil
    have hrow := Nd.getF_succ s at_ ws i
    have hwb := hws (ws.getD i 0) (by rw [List.getD_eq_getElem?_getD, List.getElem?_eq_getElem hil]; exact List.getElem_mem _)
    generalize ws.getD i 0 = x at *
    generalize Nd.offs at_ ws i = p at *
    simp -implicitDefEqProofs (disch := omega) only [go_sem, e0, e1, e7, e12, e13, e14, g1, hc, decide_true]
    refine RCall_eq (vint_number s hsl p x (by omega)) ?_
    simp -implicitDefEqProofs (disch := omega) only [go_sem, e0, e1, e7, e12, e13, e14]
    by_cases h2 : (Vint.number s p x).2 = 0
    · have hn : Nd.nm s p x = (Vint.number s p x).1 := by unfold Nd.nm; rw [if_pos h2]
      rw [hn] at hrow
      simp -implicitDefEqProofs (disch := omega) only [go_sem, e0, e1, e7, e12, e13, e14, h2, decide_true]
      refine RRun_build1 gints_sl (by rfl) fun g3 hg3 => ?_
      simp -implicitDefEqProofs (disch := omega) only [go_sem, e0, e1, e7, e12, e13, e14]
      refine RRun_append_cells (cs := [.int .i64 (Vint.number s p x).1]) gints_sl (fun _ hs => hs.2.2.2) rfl (fun u hu => by simp at hu; subst hu; rfl) (by omega) (by simp only [maxLen]; omega) fun a'' c'' hc'' => ?_
      simp -implicitDefEqProofs (disch := omega) only [go_sem, e0, e1, e7, e12, e13, e14]
      refine hQ' _ _ fun w1 hs => ⟨_, hs, ⟨i + 1, a'', c'', by omega, hc'', ?_, ?_, ?_, ?_, ?_, ?_, by rw [hrow]⟩, ?_⟩
      · (first | (simp -implicitDefEqProofs (disch := omega) only [go_sem, e0, e1, e7, e12, e13, e14]; done) | (simp -implicitDefEqProofs (disch := omega) only [go_sem, e0, e1, e7, e12, e13, e14]; rfl))
      · rw [hnext]; (first | (simp -implicitDefEqProofs (disch := omega) only [go_sem, e0, e1, e7, e12, e13, e14]; done) | (simp -implicitDefEqProofs (disch := omega) only [go_sem, e0, e1, e7, e12, e13, e14]; rfl))
      · (first | (simp -implicitDefEqProofs (disch := omega) only [go_sem, e0, e1, e7, e12, e13, e14]; done) | (simp -implicitDefEqProofs (disch := omega) only [go_sem, e0, e1, e7, e12, e13, e14]; rfl))
      · (first | (simp -implicitDefEqProofs (disch := omega) only [go_sem, e0, e1, e7, e12, e13, e14]; done) | (simp -implicitDefEqProofs (disch := omega) only [go_sem, e0, e1, e7, e12, e13, e14]; rfl))
      · (first | (simp -implicitDefEqProofs (disch := omega) only [go_sem, e0, e1, e7, e12, e13, e14]; done) | (simp -implicitDefEqProofs (disch := omega) only [go_sem, e0, e1, e7, e12, e13, e14]; rfl))
      · (first | (simp -implicitDefEqProofs (disch := omega) only [go_sem, e0, e1, e7, e12, e13, e14]; done) | (simp -implicitDefEqProofs (disch := omega) only [go_sem, e0, e1, e7, e12, e13, e14]; rfl))
      · simp -implicitDefEqProofs (disch := omega) only [go_sem, e0, e1, e7, e12, e13, e14]; omega
    · have hn : Nd.nm s p x = -1 := by unfold Nd.nm; rw [if_neg h2]
      rw [hn] at hrow
      simp -implicitDefEqProofs (disch := omega) only [go_sem, e0, e1, e7, e12, e13, e14, h2, decide_false]
      refine RRun_build1 gints_sl (by rfl) fun g3 hg3 => ?_
      simp -implicitDefEqProofs (disch := omega) only [go_sem, e0, e1, e7, e12, e13, e14]
      refine RRun_append_cells (cs := [.int .i64 (-1)]) gints_sl (fun _ hs => hs.2.2.2) rfl (fun u hu => by simp at hu; subst hu; rfl) (by omega) (by simp only [maxLen]; omega) fun a'' c'' hc'' => ?_
      simp -implicitDefEqProofs (disch := omega) only [go_sem, e0, e1, e7, e12, e13, e14]
      refine hQ' _ _ fun w1 hs => ⟨_, hs, ⟨i + 1, a'', c'', by omega, hc'', ?_, ?_, ?_, ?_, ?_, ?_, by rw [hrow]⟩, ?_⟩
      · (first | (simp -implicitDefEqProofs (disch := omega) only [go_sem, e0, e1, e7, e12, e13, e14]; done) | (simp -implicitDefEqProofs (disch := omega) only [go_sem, e0, e1, e7, e12, e13, e14]; rfl))
      · rw [hnext]; (first | (simp -implicitDefEqProofs (disch := omega) only [go_sem, e0, e1, e7, e12, e13, e14]; done) | (simp -implicitDefEqProofs (disch := omega) only [go_sem, e0, e1, e7, e12, e13, e14]; rfl))
      · (first | (simp -implicitDefEqProofs (disch := omega) only [go_sem, e0, e1, e7, e12, e13, e14]; done) | (simp -implicitDefEqProofs (disch := omega) only [go_sem, e0, e1, e7, e12, e13, e14]; rfl))
      · (first | (simp -implicitDefEqProofs (disch := omega) only [go_sem, e0, e1, e7, e12, e13, e14]; done) | (simp -implicitDefEqProofs (disch := omega) only [go_sem, e0, e1, e7, e12, e13, e14]; rfl))
      · (first | (simp -implicitDefEqProofs (disch := omega) only [go_sem, e0, e1, e7, e12, e13, e14]; done) | (simp -implicitDefEqProofs (disch := omega) only [go_sem, e0, e1, e7, e12, e13, e14]; rfl))
      · (first | (simp -implicitDefEqProofs (disch := omega) only [go_sem, e0, e1, e7, e12, e13, e14]; done) | (simp -implicitDefEqProofs (disch := omega) only [go_sem, e0, e1, e7, e12, e13, e14]; rfl))
      · simp -implicitDefEqProofs (disch := omega) only [go_sem, e0, e1, e7, e12, e13, e14]; omega
  · have g1 : ¬ (i : Int) < (ws.length : Int) := by omega
    obtain rfl : i = ws.length := by omega
    simp -implicitDefEqProofs (disch := omega) only [go_sem, e0, e1, e7, e12, e13, e14, g1, decide_false]
    refine hQ _ _ fun w' hs => ?_
    have ho : w'.ownsRow 0 3 1 (.slice a' ws.length c') ws.length (Nd.iv (Nd.getF s at_ ws ws.length)) := hs.1
    obtain ⟨g, c, hv⟩ := own_some ho hpos
    rw [hv] at hs
    obtain ⟨sp, hs2, _⟩ := hs.own_cells
    exact ⟨_, hs2, g, c, sp, by rw [hv, Nd.getF_len], rfl⟩
end Go.Proofs.Ytlmbebnpnnkhmaa
