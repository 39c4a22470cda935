/- table: the walk: an automaton in bytes. -/
import Derived.Test.YtldidoaagijnhaaTbD
import Derived.Test.YtldidoaagijnhaaFlow
namespace Go.Proofs.Ytldidoaagijnhaa
set_option linter.unusedSimpArgs false
set_option linter.unusedVariables false
open H
namespace Tb
theorem rows_len {next : List (List Int)} {c : Nat} (hp : ∀ r ∈ next, Plain r) (hc : ∀ r ∈ next, r.length ≤ c) : ∀ (rows : List (List Int)), (∀ r ∈ rows, r ∈ next) → (rows.flatMap putS).length ≤ 9 * c * rows.length
  | [], _ => by simp
  | r :: rows, h => by
    have h1 := putS_len r fun n hn => (hp r (h r (by simp)) n hn).2
    have h2 := hc r (h r (by simp))
    have h3 := rows_len hp hc rows fun x hx => h x (by simp [hx])
    rw [List.flatMap_cons, List.length_append, List.length_cons]
    have h4 : 9 * r.length ≤ 9 * c := by omega
    have h5 : 9 * c * (rows.length + 1) = 9 * c * rows.length + 9 * c := Nat.mul_succ _ _
    omega
end Tb
/-- Rows of rows, standing still. -/
structure RdRows (w : World) (a : Option Addr) (rows : List (List Int)) (ra : Nat → Option Addr) (rc : Nat → Nat) : Prop where
  next : Rd w a rows.length 1 (fun i => [.slice (ra i) (rows.getD i []).length (rc i)])
  rows : ∀ i, i < rows.length → Rd w (ra i) (rows.getD i []).length 1 (Dfa.ints (rows.getD i []))
theorem RdRows.keep {w w' : World} {a : Option Addr} {rows : List (List Int)} {ra : Nat → Option Addr} {rc : Nat → Nat} (h : RdRows w a rows ra rc) (hx : Ext [] w w') : RdRows w' a rows ra rc := ⟨h.next.keep hx, fun i hi => (h.rows i hi).keep hx⟩
theorem RdRows.at_ {w : World} {a : Option Addr} {rows : List (List Int)} {ra : Nat → Option Addr} {rc : Nat → Nat} (h : RdRows w a rows ra rc) (i : Nat) (hi : i < rows.length) : ∃ b o, a = some ⟨b, o, none⟩ ∧ b < w.heap.size ∧ w.cell? ⟨b, o + i, none⟩ = some (.slice (ra i) (rows.getD i []).length (rc i)) := by
  obtain ⟨b, o, e, hb, hc, hj⟩ := h.next.at_ i hi
  have := hj 0 (by omega)
  rw [Nat.mul_one, Nat.add_zero] at this
  exact ⟨b, o, e, hb, this⟩
theorem iv_eq (r : List Int) : (fun k => [(iv r).getD k undef]) = fun k => [(iv r).getD k undef] := rfl
theorem rd_iv {w : World} {a : Option Addr} {r : List Int} (h : Rd w a (iv r).length 1 (fun k => [(iv r).getD k undef])) : Rd w a r.length 1 (Dfa.ints r) := by
  rw [iv_len] at h
  intro hn
  obtain ⟨b, o, e, hb, hc⟩ := h hn
  refine ⟨b, o, e, hb, fun i hi => ⟨(hc i hi).1, fun j hj => ?_⟩⟩
  have := (hc i hi).2 j hj
  obtain rfl : j = 0 := by omega
  rw [this]
  simp [Dfa.ints, ofL, iv, List.getD_eq_getElem?_getD, List.getElem?_eq_getElem hi]
theorem own_next {w : World} {ao : Option Addr} {co n : Nat} {vs : Nat → Value} (h : w.ownsRow 0 46 1 (.slice ao n co) n ((List.range n).map vs)) : Rd w ao n 1 (fun k => [vs k]) := by
  refine rd_own (e := 46) (c := co) (g := fun k => [vs k]) ?_ fun _ _ => rfl
  have : flat n (fun k => [vs k]) = (List.range n).map vs := by
    clear h
    induction n with
    | zero => rfl
    | succ n ih =>
      rw [List.range_succ, List.map_append, ← ih]
      simp [flat, List.range_succ, List.flatMap_append]
  rw [this]; exact h
def raOf (vs : Nat → Value) (i : Nat) : Option Addr := match vs i with | .slice a _ _ => a | _ => none
def rcOf (vs : Nat → Value) (i : Nat) : Nat := match vs i with | .slice _ _ c => c | _ => 0
theorem rdRows_of {w : World} {ao : Option Addr} {co n : Nat} {vs : Nat → Value} {rows : List (List Int)} (hn : n = rows.length) (h1 : w.ownsRow 0 46 1 (.slice ao n co) n ((List.range n).map vs)) (h2 : RowsP 3 (fun k => k < n) vs (fun k => iv (rows.getD k [])) w) : RdRows w ao rows (raOf vs) (rcOf vs) := by
  subst hn
  refine ⟨?_, fun i hi => ?_⟩
  · have := own_next h1
    intro hn
    obtain ⟨b, o, e, hb, hc⟩ := this hn
    refine ⟨b, o, e, hb, fun i hi => ⟨rfl, fun j hj => ?_⟩⟩
    rw [(hc i hi).2 j hj]
    obtain ⟨a, c, hv, _⟩ := rows_rd h2 i hi
    simp only [raOf, rcOf, hv, iv_len]
  · obtain ⟨a, c, hv, _, hr, _⟩ := rows_rd h2 i hi
    simp only [raOf, hv]
    exact rd_iv hr
/-- Blocks of rows are not those of other things. -/
theorem rows_apart {w : World} {n : Nat} {vs : Nat → Value} {xs : Nat → List Value} {r : Res} (h2 : RowsP 3 (fun k => k < n) vs xs w) (h3 : ∀ k, (RowsOwn 3 (fun k => k < n) vs xs).fp k → ¬ r.fp k) (i : Nat) (hi : i < n) (k : Nat) (hk : (raOf vs i).map (·.block) = some k) : ¬ r.fp k := by
  obtain ⟨a, c, hv, _, _, hkk⟩ := rows_rd h2 i hi
  refine h3 k ⟨i, hi, hkk k ?_⟩
  rw [raOf, hv] at hk
  exact hk
theorem own_block {a : Option Addr} {n c k : Nat} (hk : a.map (·.block) = some k) : (Value.slice a n c).ownBlock = some k := by
  cases a with
  | none => simp at hk
  | some a => simpa [Value.ownBlock] using hk
/-- What hands back new rows, all standing still. -/
theorem rows_still {w1 w' : World} {n : Nat} {v : Value} {rs : List Res} {rows : List (List Int)} {which : List Int} (hs : Sat w' (rs ++ [.anchor w1 []])) (hn : NewRows n v rs rows which) :
    ∃ ao co gw ra rc, v = .tuple #[.slice ao rows.length co, .slice (some ⟨gw, 0, none⟩) n n] ∧ which.length = n ∧ Ext [] w1 w' ∧ RdRows w' ao rows ra rc ∧ Rd w' (some ⟨gw, 0, none⟩) n 1 (Dfa.ints which) ∧ (∀ k, ao.map (·.block) = some k → w1.heap.size ≤ k) ∧ (∀ i, i < rows.length → ∀ k, (ra i).map (·.block) = some k → w1.heap.size ≤ k) ∧ w1.heap.size ≤ gw := by
  obtain ⟨ao, co, gw, vs, rfl, hco, hwl, rfl⟩ := hn
  have h1 : w'.ownsRow 0 46 1 (.slice ao rows.length co) rows.length ((List.range rows.length).map vs) := hs.1
  have h2 : RowsP 3 (fun k => k < rows.length) vs (fun k => iv (rows.getD k [])) w' := hs.mem (RowsOwn 3 (fun k => k < rows.length) vs (fun k => iv (rows.getD k []))) (by simp)
  have h3 := rows_rd h2
  refine ⟨ao, co, gw, fun i => match vs i with | .slice a _ _ => a | _ => none, fun i => match vs i with | .slice _ _ c => c | _ => 0, rfl, hwl, hs.anchor (by simp), ⟨?_, fun i hi => ?_⟩, ?_, fun k hk => ?_, fun i hi k hk => ?_, ?_⟩
  · have := own_next h1
    intro hn
    obtain ⟨b, o, e, hb, hc⟩ := this hn
    refine ⟨b, o, e, hb, fun i hi => ⟨rfl, fun j hj => ?_⟩⟩
    rw [(hc i hi).2 j hj]
    obtain ⟨a, c, hv, _⟩ := h3 i hi
    simp only [hv, iv_len]
  · obtain ⟨a, c, hv, _, hr, _⟩ := h3 i hi
    simp only [hv]
    exact rd_iv hr
  · have := iv_rd (t := 3) (g := gw) (l := which) hs (by simp)
    rw [hwl] at this
    exact this
  · have h4 := hs.2.2.1 (.anchor w1 []) (by simp) k (show (Value.slice ao rows.length co).ownBlock = some k by cases ao with
      | none => simp at hk
      | some a => simpa [Value.ownBlock] using hk)
    exact Decidable.byContradiction fun h => h4 ⟨by omega, by simp⟩
  · obtain ⟨a, c, hv, _, _, hkk⟩ := h3 i hi
    simp only [hv] at hk
    have h4 := hs.2.2.2.2.2.2.2.2.1 (.anchor w1 []) (by simp) k ⟨i, hi, hkk k hk⟩
    exact Decidable.byContradiction fun h => h4 ⟨by omega, by simp⟩
  · have h4 := hs.2.2.2.2.2.1 (.anchor w1 []) (by simp) gw rfl
    exact Decidable.byContradiction fun h => h4 ⟨by omega, by simp⟩

def bD (i : Nat) : Nat := if i = 20 then 6 else 19 + i
/-- What is known behind each operation of the region that lays down the beginning. -/
def bS (d : Dfa.D) (g1 b o : Nat) (ao : Option Addr) (m co : Nat) (X Y B : List UInt8) (i : Nat) (v : Value) : Prop :=
  match i with
  | 0 => v = .pointer (some ⟨g1, 256, none⟩)
  | 1 => v = .slice (some ⟨b, o, none⟩) d.next.length d.c
  | 2 => v = .int .i64 (d.next.length : Int)
  | 3 => v = .pointer (some ⟨g1, 256, none⟩)
  | 4 => v = .slice (some ⟨b, o, none⟩) d.next.length d.c
  | 5 => v = .pointer (some ⟨b, o, none⟩)
  | 6 => v = .slice (d.ra 0) (Dfa.row d 0).length (d.rc 0)
  | 7 => v = .int .i64 ((Dfa.row d 0).length : Int)
  | 8 => ∃ g, v = .slice (some ⟨g, 0, none⟩) 2 2
  | 9 => v = str (Tb.putS [(d.next.length : Int), ((Dfa.row d 0).length : Int)])
  | 10 => v = str X
  | 11 => v = .pointer (some ⟨g1, 0, none⟩)
  | 12 => v = .agg (List.toArray (vals 256 (intsV d.cls .i64)))
  | 13 => v = str (Tb.runs d.cls)
  | 14 => v = str Y
  | 15 => v = .slice ao m co
  | 16 => v = .int .i64 (m : Int)
  | 17 => ∃ g, v = .slice (some ⟨g, 0, none⟩) 1 1
  | 18 => v = str (Tb.putS [(m : Int)])
  | 19 => v = str B
  | _ => v = str B
def blockOf : Value → Nat
  | .slice (some ad) _ _ => ad.block
  | _ => 0
def bR (d : Dfa.D) (m : Nat) (i : Nat) (v : Value) : List Res :=
  match i with
  | 8 => [.cells (blockOf v) 3 (List.toArray (iv [(d.next.length : Int), ((Dfa.row d 0).length : Int)]))]
  | 17 => [.cells (blockOf v) 3 (List.toArray (iv [(m : Int)]))]
  | _ => []
theorem zip_take {a b : List Int} {i : Nat} (h1 : i < a.length) (h2 : i < b.length) : (a.zip b).take (i + 1) = (a.zip b).take i ++ [(a.getD i 0, b.getD i 0)] := by
  have hl : i < (a.zip b).length := by rw [List.length_zip]; omega
  rw [List.take_add_one, List.getElem?_eq_getElem hl, Option.toList_some, List.getElem_zip, List.getD_eq_getElem?_getD, List.getD_eq_getElem?_getD, List.getElem?_eq_getElem h1, List.getElem?_eq_getElem h2]; rfl
theorem ends_len {l : List (Int × Int)} (h : ∀ x ∈ l, x.1 ≤ 9223372036854775807 ∧ x.2 + 1 ≤ 9223372036854775807) : (l.flatMap fun x => Tb.putS [x.1, x.2 + 1]).length ≤ 18 * l.length := by
  induction l with
  | nil => simp
  | cons x l ih =>
    have h1 := Tb.putS_len [x.1, x.2 + 1] (fun n hn => by
      have := h x (by simp)
      simp only [List.mem_cons, List.not_mem_nil, or_false] at hn
      rcases hn with rfl | rfl <;> omega)
    have h2 := ih fun y hy => h y (by simp [hy])
    simp only [List.length_cons, List.length_nil] at h1
    rw [List.flatMap_cons, List.length_append, List.length_cons]; omega
theorem Tb.right_cls {d : Dfa.D} (hR : Dfa.Right d) : ∀ i, i < 256 → Tb.In64 (d.cls i) := fun i hi => by
  have h := Dfa.classes_ok d hR.2.2.2.1
  have := h.2.2 i hi
  exact ⟨by omega, by omega⟩
set_option maxRecDepth 20000 in
set_option maxHeartbeats 4000000 in
theorem tb_build0 (d : Dfa.D) (w : World) (hm : Dfa.Mem w d) : Does Try.prog 25 #[d.val] w fun v w' => v = .tuple #[str (Tb.build d).1, .int .i64 (Tb.build d).2] ∧ Ext [] w w' := by
  have hval : d.val = .agg (List.toArray (Dfa.dC (Dfa.clsV d) (.slice d.a d.next.length d.c) (.slice d.ar d.rules.length d.cr))) := rfl
  rw [hval]
  refine does (args := [.agg (List.toArray (Dfa.dC (Dfa.clsV d) (.slice d.a d.next.length d.c) (.slice d.ar d.rules.length d.cr)))]) Try.func25 rfl (by kernel_rfl) (by kernel_rfl) rfl ent_25 (Sat.start w []) ?_; intro QV hQ
  simp -implicitDefEqProofs (disch := omega) only [go_sem]
  refine RNew_intro fun g1 hg1 => ?_
  have hg1' : w.heap.size ≤ g1 := hg1.1
  simp -implicitDefEqProofs (disch := omega) only [go_sem]
  refine RCall_eqS (fun w1 hs => by have := dfa_right d w1 (hm.keep (hs.anchor (by simp))); rw [hval] at this; exact this) ?_
  by_cases hR : Dfa.Right d
  rotate_left
  · have hb : Tb.build d = ([], 4) := by unfold Tb.build; rw [if_neg hR]
    rw [hb] at hQ
    simp -implicitDefEqProofs (disch := omega) only [go_sem, hR, decide_false]
    exact hQ _ _ fun w' hs => ⟨rfl, hs.anchor (by simp)⟩
  have hb : Tb.build d = (Tb.bytes d.cls d.next d.rules ++ Tb.sumB (Tb.bytes d.cls d.next d.rules), 0) := by unfold Tb.build; rw [if_pos hR]
  have hcl := Tb.right_cls hR
  rw [hb] at hQ
  have hn1 : 1 ≤ d.next.length := hR.1
  have hn2 : d.next.length ≤ 1000 := hR.2.1
  simp -implicitDefEqProofs (disch := omega) only [go_sem, hR, decide_true]
  refine RCall_any fun w1 hs1 => ?_
  have hcall := tb_rows d hR w1 (hm.keep (hs1.anchor (by simp)))
  rw [hval] at hcall
  refine hcall.mono ?_
  rintro v w2 ⟨rs, hsr, hnr⟩
  obtain ⟨ao, co, gw, ra, rc, rfl, hwl, hx12, hrr, hrw, nao, nra, ngw⟩ := rows_still hsr hnr
  have hs2 := hs1.ext hx12
  refine ⟨_, hs2.reanchor, ?_⟩
  have hxw : Ext [] w w2 := (hs1.anchor (by simp)).trans hx12
  have hm2 := hm.keep hxw
  clear hnr hsr hcall
  have hRo := Tb.rowsOf d.next
  have hbytes : Tb.bytes d.cls d.next d.rules = [83, 67, 65, 78] ++ Tb.putS [(d.next.length : Int), ((Dfa.row d 0).length : Int)] ++ Tb.runs d.cls ++ Tb.putS [((Tb.rowsW d.next).1.length : Int)] ++ (Tb.rowsW d.next).1.flatMap Tb.putS ++ Tb.ends (Tb.rowsW d.next).2 d.rules := rfl
  generalize Tb.rowsW d.next = rw_ at *
  obtain ⟨rows, which⟩ := rw_
  simp only [] at hwl hRo hbytes ⊢
  obtain ⟨b, o, hda, hbb, hc0⟩ := Dfa.next_at hm2 0 (by omega)
  rw [Nat.add_zero] at hc0
  have hb1 : b ≠ g1 := by
    have h0 := Dfa.next_at hm 0 (by omega)
    obtain ⟨b', o', hda', hbb', _⟩ := h0
    rw [hda] at hda'
    injection hda' with hda'
    injection hda' with h1 h2
    omega
  have hrl : ∀ i, i < d.next.length → (Dfa.row d i).length ≤ 256 := fun i hi => by
    have := (Dfa.classes_ok d hR.2.2.2.1).2.1
    have := (hR.2.2.2.2 i hi).2.2.1
    omega
  have hrl0 := hrl 0 (by omega)
  have hrn := hRo.le
  have hl1 := Tb.putS_len [(d.next.length : Int), ((Dfa.row d 0).length : Int)] (fun n hn => by
    simp only [List.mem_cons, List.not_mem_nil, or_false] at hn
    rcases hn with rfl | rfl <;> omega)
  simp only [List.length_cons, List.length_nil] at hl1
  have hl2 := Tb.putS_len [(rows.length : Int)] (fun n hn => by
    simp only [List.mem_cons, List.not_mem_nil, or_false] at hn
    subst hn; omega)
  simp only [List.length_cons, List.length_nil] at hl2
  have hl3 : (Tb.runs d.cls).length ≤ 18 * 257 := Tb.runsGo_len d.cls (fun i hi => (hcl i hi).2) 257 0 0 (by omega) (by omega)
  obtain ⟨X, hX⟩ : ∃ X, X = [83, 67, 65, 78] ++ Tb.putS [(d.next.length : Int), ((Dfa.row d 0).length : Int)] := ⟨_, rfl⟩
  obtain ⟨Y, hY⟩ : ∃ Y, Y = X ++ Tb.runs d.cls := ⟨_, rfl⟩
  obtain ⟨B, hB⟩ : ∃ B, B = Y ++ Tb.putS [(rows.length : Int)] := ⟨_, rfl⟩
  rw [← hX, ← hY, ← hB] at hbytes
  have hl4 : X.length ≤ 22 := by
    rw [hX, List.length_append]; simp only [List.length_cons, List.length_nil]; omega
  have hl5 : Y.length ≤ 4800 := by
    rw [hY, List.length_append]; omega
  have hg2 : g1 < w2.heap.size := hs2.lt (.cells g1 48 (List.toArray (Dfa.dC (Dfa.clsV d) (.slice d.a d.next.length d.c) (.slice d.ar d.rules.length d.cr)))) (by simp) g1 rfl
  simp -implicitDefEqProofs (disch := omega) only [go_sem]
  refine RDraw_seg (by kernel_rfl) (by kernel_rfl) 21 rfl ?_
  refine RS_flow bD (bS d g1 b o ao rows.length co X Y B) (bR d rows.length) (by kernel_rfl) ?_ ?_
  · refine ⟨fun f h hp => ?_, fun f h hp => ?_, fun f h hp => ?_, fun f h hp => ?_, fun f h hp => ?_, fun f h hp => ?_, fun f h hp => ?_, fun f h hp => ?_, fun f h hp => ?_, fun f h hp => ?_, fun f h hp => ?_, fun f h hp => ?_, fun f h hp => ?_, fun f h hp => ?_, fun f h hp => ?_, fun f h hp => ?_, fun f h hp => ?_, fun f h hp => ?_, fun f h hp => ?_, fun f h hp => ?_, fun f h hp => ?_, trivial⟩
    · have e1 := hp.old 1 (by decide)
      simp -implicitDefEqProofs (disch := omega) only [go_sem, e1]
      exact FlowTo.of (Grew.refl _) rfl (by simp [bR])
    · have e19 : f 19 = .pointer (some ⟨g1, 256, none⟩) := hp.val 0 (by kernel_rfl)
      have hl := hp.grew.look ⟨g1, 256, none⟩ (.slice d.a d.next.length d.c) (by simp -implicitDefEqProofs (disch := omega) only [go_sem])
      simp -implicitDefEqProofs (disch := omega) only [go_sem, e19, hl]
      exact FlowTo.of (Grew.refl _) (by rw [hda]; rfl) (by simp [bR])
    · have e20 : f 20 = .slice (some ⟨b, o, none⟩) d.next.length d.c := hp.val 1 (by kernel_rfl)
      simp -implicitDefEqProofs (disch := omega) only [go_sem, e20]
      exact FlowTo.of (Grew.refl _) rfl (by simp [bR])
    · have e1 := hp.old 1 (by decide)
      simp -implicitDefEqProofs (disch := omega) only [go_sem, e1]
      exact FlowTo.of (Grew.refl _) rfl (by simp [bR])
    · have e22 : f 22 = .pointer (some ⟨g1, 256, none⟩) := hp.val 3 (by kernel_rfl)
      have hl := hp.grew.look ⟨g1, 256, none⟩ (.slice d.a d.next.length d.c) (by simp -implicitDefEqProofs (disch := omega) only [go_sem])
      simp -implicitDefEqProofs (disch := omega) only [go_sem, e22, hl]
      exact FlowTo.of (Grew.refl _) (by rw [hda]; rfl) (by simp [bR])
    · have e23 : f 23 = .slice (some ⟨b, o, none⟩) d.next.length d.c := hp.val 4 (by kernel_rfl)
      have h0 : (0 : Int) < (d.next.length : Int) := by omega
      simp -implicitDefEqProofs (disch := omega) only [go_sem, e23, h0]
      exact FlowTo.of (Grew.refl _) rfl (by simp [bR])
    · have e24 : f 24 = .pointer (some ⟨b, o, none⟩) := hp.val 5 (by kernel_rfl)
      have hl := hp.grew.look ⟨b, o, none⟩ (.slice (d.ra 0) (Dfa.row d 0).length (d.rc 0)) (by simp -implicitDefEqProofs (disch := omega) only [go_sem, hb1, hbb, hc0])
      simp -implicitDefEqProofs (disch := omega) only [go_sem, e24, hl]
      exact FlowTo.of (Grew.refl _) rfl (by simp [bR])
    · have e25 : f 25 = .slice (d.ra 0) (Dfa.row d 0).length (d.rc 0) := hp.val 6 (by kernel_rfl)
      simp -implicitDefEqProofs (disch := omega) only [go_sem, e25]
      exact FlowTo.of (Grew.refl _) rfl (by simp [bR])
    · have e21 : f 21 = .int .i64 (d.next.length : Int) := hp.val 2 (by kernel_rfl)
      have e26 : f 26 = .int .i64 ((Dfa.row d 0).length : Int) := hp.val 7 (by kernel_rfl)
      simp -implicitDefEqProofs (disch := omega) only [go_sem, e21, e26]
      refine RRun_buildz [.int .i64 (d.next.length : Int), .int .i64 ((Dfa.row d 0).length : Int)] (iv [(d.next.length : Int), ((Dfa.row d 0).length : Int)]) tints_sl rfl rfl (by decide) (fun v hv => by
        simp only [List.mem_cons, List.not_mem_nil, or_false] at hv
        rcases hv with rfl | rfl <;> rfl) rfl (by decide) fun gx hgx => ?_
      simp -implicitDefEqProofs (disch := omega) only [go_sem]
      exact FlowTo.of (Grew.cells _ _ hgx) ⟨gx, rfl⟩ (by simp [bR, blockOf])
    · obtain ⟨gx, e27⟩ : ∃ g, f 27 = .slice (some ⟨g, 0, none⟩) 2 2 := hp.val 8 (by kernel_rfl)
      have hr27 := hp.res 8 (by kernel_rfl)
      rw [show f (bD 8) = f 27 from rfl, e27] at hr27
      simp -implicitDefEqProofs (disch := omega) only [go_sem, e27]
      refine RCall_eqS (fun w3 hs => tb_put [(d.next.length : Int), ((Dfa.row d 0).length : Int)] (some ⟨gx, 0, none⟩) 2 (by simp) (fun n hn => by
        simp only [List.mem_cons, List.not_mem_nil, or_false] at hn
        unfold Tb.In64
        rcases hn with rfl | rfl <;> omega) w3 (iv_rd (t := 3) hs (hr27 _ (by simp [bR, blockOf])))) ?_
      exact FlowTo.of (Grew.refl _) rfl (by simp [bR])
    · have e28 : f 28 = str (Tb.putS [(d.next.length : Int), ((Dfa.row d 0).length : Int)]) := hp.val 9 (by kernel_rfl)
      have b0 : strV .add ⟨#[83, 67, 65, 78]⟩ ⟨(Tb.putS [(d.next.length : Int), ((Dfa.row d 0).length : Int)]).toArray⟩ = some (str ([83, 67, 65, 78] ++ Tb.putS [(d.next.length : Int), ((Dfa.row d 0).length : Int)])) := strV_add [83, 67, 65, 78] _ (by simp only [List.length_cons, List.length_nil]; omega)
      simp -implicitDefEqProofs (disch := omega) only [go_sem, e28, b0]
      exact FlowTo.of (Grew.refl _) (by rw [hX]; rfl) (by simp [bR])
    · have e1 := hp.old 1 (by decide)
      simp -implicitDefEqProofs (disch := omega) only [go_sem, e1]
      exact FlowTo.of (Grew.refl _) rfl (by simp [bR])
    · have e30 : f 30 = .pointer (some ⟨g1, 0, none⟩) := hp.val 11 (by kernel_rfl)
      have hl := hp.grew.lookN ⟨g1, 0, none⟩ 256 (List.toArray (vals 256 (intsV d.cls .i64))) (by simp -implicitDefEqProofs (disch := omega) only [go_sem])
      simp -implicitDefEqProofs (disch := omega) only [go_sem, e30, hl]
      exact FlowTo.of (Grew.refl _) rfl (by simp [bR])
    · have e31 : f 31 = .agg (List.toArray (vals 256 (intsV d.cls .i64))) := hp.val 12 (by kernel_rfl)
      simp -implicitDefEqProofs (disch := omega) only [go_sem, e31]
      refine RCall_eq (tb_runs d.cls hcl) ?_
      exact FlowTo.of (Grew.refl _) rfl (by simp [bR])
    · have e29 : f 29 = str X := hp.val 10 (by kernel_rfl)
      have e32 : f 32 = str (Tb.runs d.cls) := hp.val 13 (by kernel_rfl)
      simp -implicitDefEqProofs (disch := omega) only [go_sem, e29, e32]
      exact FlowTo.of (Grew.refl _) (by rw [hY]; rfl) (by simp [bR])
    · have e4 := hp.old 4 (by decide)
      simp -implicitDefEqProofs (disch := omega) only [go_sem, e4]
      exact FlowTo.of (Grew.refl _) rfl (by simp [bR])
    · have e34 : f 34 = .slice ao rows.length co := hp.val 15 (by kernel_rfl)
      simp -implicitDefEqProofs (disch := omega) only [go_sem, e34]
      exact FlowTo.of (Grew.refl _) rfl (by simp [bR])
    · have e35 : f 35 = .int .i64 (rows.length : Int) := hp.val 16 (by kernel_rfl)
      simp -implicitDefEqProofs (disch := omega) only [go_sem, e35]
      refine RRun_buildz [.int .i64 (rows.length : Int)] (iv [(rows.length : Int)]) tints_sl rfl rfl (by decide) (fun v hv => by
        simp only [List.mem_cons, List.not_mem_nil, or_false] at hv
        subst hv; rfl) rfl (by decide) fun gx hgx => ?_
      simp -implicitDefEqProofs (disch := omega) only [go_sem]
      exact FlowTo.of (Grew.cells _ _ hgx) ⟨gx, rfl⟩ (by simp [bR, blockOf])
    · obtain ⟨gx, e36⟩ : ∃ g, f 36 = .slice (some ⟨g, 0, none⟩) 1 1 := hp.val 17 (by kernel_rfl)
      have hr36 := hp.res 17 (by kernel_rfl)
      rw [show f (bD 17) = f 36 from rfl, e36] at hr36
      simp -implicitDefEqProofs (disch := omega) only [go_sem, e36]
      refine RCall_eqS (fun w3 hs => tb_put [(rows.length : Int)] (some ⟨gx, 0, none⟩) 1 (by simp) (fun n hn => by
        simp only [List.mem_cons, List.not_mem_nil, or_false] at hn
        unfold Tb.In64
        subst hn; omega) w3 (iv_rd (t := 3) hs (hr36 _ (by simp [bR, blockOf])))) ?_
      exact FlowTo.of (Grew.refl _) rfl (by simp [bR])
    · have e33 : f 33 = str Y := hp.val 14 (by kernel_rfl)
      have e37 : f 37 = str (Tb.putS [(rows.length : Int)]) := hp.val 18 (by kernel_rfl)
      simp -implicitDefEqProofs (disch := omega) only [go_sem, e33, e37]
      exact FlowTo.of (Grew.refl _) (by rw [hB]; rfl) (by simp [bR])
    · have e38 : f 38 = str B := hp.val 19 (by kernel_rfl)
      simp -implicitDefEqProofs (disch := omega) only [go_sem, e38]
      exact FlowTo.of (Grew.refl _) rfl (by simp [bR])
  intro f h hg hold hval2 _
  have e1 := hold 1 (by decide)
  have e4 := hold 4 (by decide)
  have e5 := hold 5 (by decide)
  have e6 : f 6 = str B := hval2 20 (by decide)
  have e1' : f 1 = .pointer (some ⟨g1, 0, none⟩) := e1.trans (by (first | (simp -implicitDefEqProofs (disch := omega) only [go_sem]; done) | (simp -implicitDefEqProofs (disch := omega) only [go_sem]; rfl)))
  have e4' : f 4 = .slice ao rows.length co := e4.trans (by (first | (simp -implicitDefEqProofs (disch := omega) only [go_sem]; done) | (simp -implicitDefEqProofs (disch := omega) only [go_sem]; rfl)))
  have e5' : f 5 = .slice (some ⟨gw, 0, none⟩) d.next.length d.next.length := e5.trans (by (first | (simp -implicitDefEqProofs (disch := omega) only [go_sem]; done) | (simp -implicitDefEqProofs (disch := omega) only [go_sem]; rfl)))
  clear e1 e4 e5 hold hval2
  have hx2 : ∀ w', Sat w' h → Ext [] w w' := fun w' hs => hxw.back ((hg.sat hs).anchor (by simp)) hg1'
  have hg1w : g1 < w1.heap.size := hs1.lt (.cells g1 48 (List.toArray (Dfa.dC (Dfa.clsV d) (.slice d.a d.next.length d.c) (.slice d.ar d.rules.length d.cr)))) (by simp) g1 rfl
  have hrow : ∀ r ∈ rows, Tb.Plain r ∧ r.length ≤ 256 := fun r hr => by
    have hr' := hRo.mem r hr
    refine ⟨Tb.right_plain hR r hr', ?_⟩
    obtain ⟨i, hi, rfl⟩ := List.getElem_of_mem hr'
    have := hrl i hi
    unfold Dfa.row at this
    rw [List.getD_eq_getElem?_getD, List.getElem?_eq_getElem hi] at this
    exact this
  have hBl : B.length ≤ 5000 := by
    rw [hB]; simp only [List.length_append]; omega
  have hTl := Tb.rows_len (next := d.next) (c := 256) (Tb.right_plain hR) (fun r hr => by
    obtain ⟨i, hi, rfl⟩ := List.getElem_of_mem hr
    have := hrl i hi
    unfold Dfa.row at this
    rw [List.getD_eq_getElem?_getD, List.getElem?_eq_getElem hi] at this
    exact this) rows hRo.mem
  simp -implicitDefEqProofs (disch := omega) only [go_sem, e1', e4', e5', e6]
  refine RLoop_from (fun f h => ∃ (i : Nat), i ≤ rows.length ∧ f 1 = .pointer (some ⟨g1, 0, none⟩) ∧ f 5 = .slice (some ⟨gw, 0, none⟩) d.next.length d.next.length ∧ f 6 = str (B ++ (rows.take i).flatMap Tb.putS) ∧ f 39 = .slice ao rows.length co ∧ f 40 = .int .i64 (rows.length : Int) ∧ f 41 = .int .i64 (i : Int) ∧ h = [.cells g1 48 (List.toArray (Dfa.dC (Dfa.clsV d) (.slice d.a d.next.length d.c) (.slice d.ar d.rules.length d.cr))), .anchor w2 [g1]]) (fun f _ => (rows.length - ival (f 41)).toNat) ?_ ?_
  · exact fun w' hs => ⟨_, hg.sat hs, 0, by omega, by (first | (simp -implicitDefEqProofs (disch := omega) only [go_sem, e1']; done) | (simp -implicitDefEqProofs (disch := omega) only [go_sem, e1']; rfl)), by (first | (simp -implicitDefEqProofs (disch := omega) only [go_sem, e5']; done) | (simp -implicitDefEqProofs (disch := omega) only [go_sem, e5']; rfl)), by rw [List.take_zero, List.flatMap_nil, List.append_nil]; (first | (simp -implicitDefEqProofs (disch := omega) only [go_sem, e6]; done) | (simp -implicitDefEqProofs (disch := omega) only [go_sem, e6]; rfl)), by (first | (simp -implicitDefEqProofs (disch := omega) only [go_sem]; done) | (simp -implicitDefEqProofs (disch := omega) only [go_sem]; rfl)), by (first | (simp -implicitDefEqProofs (disch := omega) only [go_sem]; done) | (simp -implicitDefEqProofs (disch := omega) only [go_sem]; rfl)), by (first | (simp -implicitDefEqProofs (disch := omega) only [go_sem]; done) | (simp -implicitDefEqProofs (disch := omega) only [go_sem]; rfl)), rfl⟩
  clear hx2 hg
  have hx2 : ∀ w', Ext [g1] w2 w' → Ext [] w w' := fun w' hx => hxw.back hx hg1'
  clear e1' e4' e5' e6
  rintro f h ⟨i, hi, e1, e5, e6, e39, e40, e41, rfl⟩ Q' hQ'
  by_cases hil : i < rows.length
  · have g0 : (i : Int) < (rows.length : Int) := by omega
    obtain ⟨b3, o3, hao, hb3, hc3⟩ := hrr.at_ i hil
    have hb31 : b3 ≠ g1 := by have := nao b3 (by rw [hao]; rfl); omega
    have hri := hrr.rows i hil
    have hnr := nra i hil
    have htk : (rows.take (i + 1)).flatMap Tb.putS = (rows.take i).flatMap Tb.putS ++ Tb.putS (rows.getD i []) := by
      rw [Dfa.take_succ rows [] i hil, List.flatMap_append]; simp
    have hmemi : rows.getD i [] ∈ rows := by rw [List.getD_eq_getElem?_getD, List.getElem?_eq_getElem hil]; exact List.getElem_mem _
    obtain ⟨hpi, hli⟩ := hrow _ hmemi
    have hlen1 := Tb.putS_len (rows.getD i []) fun n hn => (hpi n hn).2
    have hTl2 := Tb.rows_len (next := d.next) (c := 256) (Tb.right_plain hR) (fun r hr => by
      obtain ⟨i, hi, rfl⟩ := List.getElem_of_mem hr
      have := hrl i hi
      unfold Dfa.row at this
      rw [List.getD_eq_getElem?_getD, List.getElem?_eq_getElem hi] at this
      exact this) (rows.take i) fun r hr => hRo.mem r (List.mem_of_mem_take hr)
    rw [List.length_take] at hTl2
    have hTl3 : 9 * 256 * min i rows.length ≤ 9 * 256 * 1000 := Nat.mul_le_mul_left _ (by omega)
    rw [hao] at e39
    generalize hr : rows.getD i [] = r at *
    simp -implicitDefEqProofs (disch := omega) only [go_sem, e1, e5, e6, e39, e40, e41, g0, hc3, hb31, decide_true]
    refine RCall_eqS (fun w3 hs => tb_put r (ra i) (rc i) (by omega) (fun n hn => ⟨by have := (hpi n hn).1; omega, (hpi n hn).2⟩) w3 (hri.keep1 (show Ext [g1] w2 w3 from hs.anchor (by simp)) (fun k hk => ?_))) ?_
    · have := hnr k hk; omega
    have b0 := strV_add (B ++ (rows.take i).flatMap Tb.putS) (Tb.putS r) (by rw [List.length_append]; omega)
    simp -implicitDefEqProofs (disch := omega) only [go_sem, e1, e5, e6, e39, e40, e41, b0]
    refine hQ' _ _ fun w3 hs => ⟨_, hs, ⟨i + 1, by omega, ?_, ?_, ?_, ?_, ?_, ?_, rfl⟩, ?_⟩
    · (first | (simp -implicitDefEqProofs (disch := omega) only [go_sem, e1, e5, e6, e39, e40, e41]; done) | (simp -implicitDefEqProofs (disch := omega) only [go_sem, e1, e5, e6, e39, e40, e41]; rfl))
    · (first | (simp -implicitDefEqProofs (disch := omega) only [go_sem, e1, e5, e6, e39, e40, e41]; done) | (simp -implicitDefEqProofs (disch := omega) only [go_sem, e1, e5, e6, e39, e40, e41]; rfl))
    · rw [htk, ← List.append_assoc]; (first | (simp -implicitDefEqProofs (disch := omega) only [go_sem, e1, e5, e6, e39, e40, e41]; done) | (simp -implicitDefEqProofs (disch := omega) only [go_sem, e1, e5, e6, e39, e40, e41]; rfl))
    · rw [hao]; (first | (simp -implicitDefEqProofs (disch := omega) only [go_sem, e1, e5, e6, e39, e40, e41]; done) | (simp -implicitDefEqProofs (disch := omega) only [go_sem, e1, e5, e6, e39, e40, e41]; rfl))
    · (first | (simp -implicitDefEqProofs (disch := omega) only [go_sem, e1, e5, e6, e39, e40, e41]; done) | (simp -implicitDefEqProofs (disch := omega) only [go_sem, e1, e5, e6, e39, e40, e41]; rfl))
    · (first | (simp -implicitDefEqProofs (disch := omega) only [go_sem, e1, e5, e6, e39, e40, e41]; done) | (simp -implicitDefEqProofs (disch := omega) only [go_sem, e1, e5, e6, e39, e40, e41]; rfl))
    · simp -implicitDefEqProofs (disch := omega) only [go_sem, e1, e5, e6, e39, e40, e41]; omega
  have g0 : ¬ (i : Int) < (rows.length : Int) := by omega
  rw [List.take_of_length_le (by omega)] at e6
  obtain ⟨C, hC⟩ : ∃ C, C = B ++ rows.flatMap Tb.putS := ⟨_, rfl⟩
  rw [← hC] at e6 hbytes
  have hCl : C.length ≤ 2400000 := by
    rw [hC, List.length_append]
    have : 9 * 256 * rows.length ≤ 9 * 256 * 1000 := Nat.mul_le_mul_left _ (by omega)
    omega
  have hul : d.rules.length = d.next.length := hR.2.2.1
  have hzin : ∀ i, i < d.next.length → ∀ x ∈ (which.zip d.rules).take i, x.1 ≤ 1000 ∧ x.2 + 1 ≤ 32 := fun i hi x hx => by
    obtain ⟨j, hj, rfl⟩ := List.getElem_of_mem (List.mem_of_mem_take hx)
    rw [List.length_zip] at hj
    have h1 := hRo.at_ j (by omega)
    have h2 := hR.2.2.2.2 j (by omega)
    rw [List.getElem_zip]
    have h3 := h2.2.1
    have h4 := h1.2.1
    rw [List.getD_eq_getElem?_getD, List.getElem?_eq_getElem (by omega), Option.getD_some] at h3 h4
    simp only []
    omega
  simp -implicitDefEqProofs (disch := omega) only [go_sem, e1, e5, e6, e39, e40, e41, g0, decide_false]
  refine RLoop_from (fun f h => ∃ (i : Nat), i ≤ d.next.length ∧ f 1 = .pointer (some ⟨g1, 0, none⟩) ∧ f 6 = str (C ++ ((which.zip d.rules).take i).flatMap fun x => Tb.putS [x.1, x.2 + 1]) ∧ f 50 = .slice (some ⟨gw, 0, none⟩) d.next.length d.next.length ∧ f 51 = .int .i64 (d.next.length : Int) ∧ f 52 = .int .i64 (i : Int) ∧ h = [.cells g1 48 (List.toArray (Dfa.dC (Dfa.clsV d) (.slice d.a d.next.length d.c) (.slice d.ar d.rules.length d.cr))), .anchor w2 [g1]]) (fun f _ => (d.next.length - ival (f 52)).toNat) ?_ ?_
  · exact fun w' hs => ⟨_, hs, 0, by omega, by (first | (simp -implicitDefEqProofs (disch := omega) only [go_sem, e1, e5, e6, e39, e40, e41]; done) | (simp -implicitDefEqProofs (disch := omega) only [go_sem, e1, e5, e6, e39, e40, e41]; rfl)), by rw [List.take_zero, List.flatMap_nil, List.append_nil]; (first | (simp -implicitDefEqProofs (disch := omega) only [go_sem, e1, e5, e6, e39, e40, e41]; done) | (simp -implicitDefEqProofs (disch := omega) only [go_sem, e1, e5, e6, e39, e40, e41]; rfl)), by (first | (simp -implicitDefEqProofs (disch := omega) only [go_sem, e1, e5, e6, e39, e40, e41]; done) | (simp -implicitDefEqProofs (disch := omega) only [go_sem, e1, e5, e6, e39, e40, e41]; rfl)), by (first | (simp -implicitDefEqProofs (disch := omega) only [go_sem, e1, e5, e6, e39, e40, e41]; done) | (simp -implicitDefEqProofs (disch := omega) only [go_sem, e1, e5, e6, e39, e40, e41]; rfl)), by (first | (simp -implicitDefEqProofs (disch := omega) only [go_sem, e1, e5, e6, e39, e40, e41]; done) | (simp -implicitDefEqProofs (disch := omega) only [go_sem, e1, e5, e6, e39, e40, e41]; rfl)), rfl⟩
  clear e1 e5 e6 e39 e40 e41
  rintro f h ⟨i, hi, e1, e6, e50, e51, e52, rfl⟩ Q' hQ'
  obtain ⟨D, hD⟩ : ∃ D, D = C ++ ((which.zip d.rules).take i).flatMap fun x => Tb.putS [x.1, x.2 + 1] := ⟨_, rfl⟩
  rw [← hD] at e6
  have hDl : D.length ≤ 2420000 := by
    rw [hD, List.length_append]
    by_cases hil : i < d.next.length
    · have := ends_len (l := (which.zip d.rules).take i) fun x hx => by have := hzin i hil x hx; omega
      rw [List.length_take] at this
      omega
    · obtain ⟨k, rfl⟩ : ∃ k, i = k + 1 := ⟨i - 1, by omega⟩
      have := ends_len (l := (which.zip d.rules).take (k + 1)) fun x hx => by
        rw [zip_take (by omega) (by omega)] at hx
        rcases List.mem_append.1 hx with hx | hx
        · have := hzin k (by omega) x hx; omega
        · obtain rfl := List.mem_singleton.1 hx
          have h1 := hRo.at_ k (by omega)
          have h2 := (hR.2.2.2.2 k (by omega)).2.1
          simp only []
          omega
      rw [List.length_take] at this
      omega
  by_cases hil : i < d.next.length
  · have g0 : (i : Int) < (d.next.length : Int) := by omega
    have g0' : (i : Int) < (d.rules.length : Int) := by omega
    have hwi := hRo.at_ i hil
    have hri := hR.2.2.2.2 i hil
    have hr1 := hri.1
    have hr2 := hri.2.1
    obtain ⟨b4, o4, hw4, hb4, hc4⟩ := Dfa.ints_at (l := which) (by rw [hwl]; exact hrw) i (by omega)
    injection hw4 with hw4
    injection hw4 with hw4 hw5
    subst hw4 hw5
    rw [Nat.zero_add] at hc4
    have ngg : gw ≠ g1 := by omega
    obtain ⟨b5, o5, har, hb5, hc5⟩ := Dfa.ints_at hm2.rules i (by omega)
    have hb51 : b5 ≠ g1 := by
      obtain ⟨b6, o6, har', hb6, _⟩ := Dfa.ints_at hm.rules i (by omega)
      rw [har] at har'
      injection har' with har'
      injection har' with h1 h2
      omega
    have htk := zip_take (a := which) (b := d.rules) (i := i) (by omega) (by omega)
    generalize which.getD i 0 = wi at *
    generalize d.rules.getD i 0 = ri at *
    have hpl := Tb.putS_len [wi, ri + 1] (fun n hn => by
      simp only [List.mem_cons, List.not_mem_nil, or_false] at hn
      rcases hn with rfl | rfl <;> omega)
    simp only [List.length_cons, List.length_nil] at hpl
    simp -implicitDefEqProofs (disch := omega) only [go_sem, e1, e6, e50, e51, e52, g0, g0', hc4, ngg, har, hb51, hc5, decide_true]
    refine RRun_buildz [.int .i64 wi, .int .i64 (ri + 1)] (iv [wi, ri + 1]) tints_sl rfl rfl (by simp) (fun v hv => by
      simp only [List.mem_cons, List.not_mem_nil, or_false] at hv
      rcases hv with rfl | rfl <;> rfl) rfl (by simp) fun gx hgx => ?_
    simp -implicitDefEqProofs (disch := omega) only [go_sem, e1, e6, e50, e51, e52]
    refine RCall_eqS (fun w1 hs => tb_put [wi, ri + 1] (some ⟨gx, 0, none⟩) 2 (by simp) (fun n hn => by
      simp only [List.mem_cons, List.not_mem_nil, or_false] at hn
      unfold Tb.In64
      rcases hn with rfl | rfl <;> omega) w1 (iv_rd (t := 3) hs List.mem_cons_self)) ?_
    simp -implicitDefEqProofs (disch := omega) only [go_sem, e1, e6, e50, e51, e52]
    refine hQ' _ _ fun w3 hs => ⟨_, hs.2.2.2, ⟨i + 1, by omega, ?_, ?_, ?_, ?_, ?_, ?_⟩, ?_⟩
    · (first | (simp -implicitDefEqProofs (disch := omega) only [go_sem, e1, e6, e50, e51, e52]; done) | (simp -implicitDefEqProofs (disch := omega) only [go_sem, e1, e6, e50, e51, e52]; rfl))
    · rw [htk, List.flatMap_append, ← List.append_assoc, ← hD, List.flatMap_singleton]; (first | (simp -implicitDefEqProofs (disch := omega) only [go_sem, e1, e6, e50, e51, e52]; done) | (simp -implicitDefEqProofs (disch := omega) only [go_sem, e1, e6, e50, e51, e52]; rfl))
    · (first | (simp -implicitDefEqProofs (disch := omega) only [go_sem, e1, e6, e50, e51, e52]; done) | (simp -implicitDefEqProofs (disch := omega) only [go_sem, e1, e6, e50, e51, e52]; rfl))
    · (first | (simp -implicitDefEqProofs (disch := omega) only [go_sem, e1, e6, e50, e51, e52]; done) | (simp -implicitDefEqProofs (disch := omega) only [go_sem, e1, e6, e50, e51, e52]; rfl))
    · (first | (simp -implicitDefEqProofs (disch := omega) only [go_sem, e1, e6, e50, e51, e52]; done) | (simp -implicitDefEqProofs (disch := omega) only [go_sem, e1, e6, e50, e51, e52]; rfl))
    · rw [har]
    · simp -implicitDefEqProofs (disch := omega) only [go_sem, e1, e6, e50, e51, e52]; omega
  have g0 : ¬ (i : Int) < (d.next.length : Int) := by omega
  have hDe : D = Tb.bytes d.cls d.next d.rules := by
    rw [hD, hbytes, List.take_of_length_le (by rw [List.length_zip]; omega)]; rfl
  have hsl := Tb.sumB_len D
  simp -implicitDefEqProofs (disch := omega) only [go_sem, e1, e6, e50, e51, e52, g0, decide_false]
  refine RCall_eq (tb_sum D (by omega)) ?_
  simp -implicitDefEqProofs (disch := omega) only [go_sem, e1, e6, e50, e51, e52]
  rw [← hDe] at hQ
  exact hQ _ _ fun w' hs => ⟨rfl, hx2 w' (hs.anchor (by simp))⟩
  done
theorem tb_build (d : Dfa.D) (hcl : ∀ i, i < 256 → Tb.In64 (d.cls i)) (hru : ∀ i, i < d.rules.length → Tb.In64 (d.rules.getD i 0)) (w : World) (hm : Dfa.Mem w d) : Does Try.prog 25 #[d.val] w fun v w' => v = .tuple #[str (Tb.build d).1, .int .i64 (Tb.build d).2] ∧ Ext [] w w' := tb_build0 d w hm
end Go.Proofs.Ytldidoaagijnhaa
