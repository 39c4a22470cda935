/- The laws of dfa: what must come of fixed calls. -/
import Derived.Test.YtpdckakccegofaaDfaG
namespace Go.Proofs.Ytpdckakccegofaa
set_option linter.unusedSimpArgs false
set_option linter.unusedVariables false
open H
/-- One state, one class: where it leads, its rule. -/
def kD (x r : Int) (g1 g2 g3 : Nat) : Dfa.D := ⟨fun _ => 0, [[x]], [r], some ⟨g2, 0, none⟩, 1, fun _ => some ⟨g1, 0, none⟩, fun _ => 1, some ⟨g3, 0, none⟩, 1⟩
theorem rd_one {w : World} {h : List Res} {g : Nat} {t : TypeId} {v : Value} (hs : Sat w h) (hm : Res.cells g t #[v] ∈ h) : Rd w (some ⟨g, 0, none⟩) 1 1 (fun _ => [v]) := by
  refine rd_cells (hs.mem _ hm) 0 1 1 _ (hs.lt _ hm g rfl) (fun i _ => rfl) fun i j hi hj => ?_
  obtain rfl : i = 0 := by omega
  obtain rfl : j = 0 := by omega
  rfl
theorem kD_mem {w : World} {h : List Res} {g1 g2 g3 : Nat} {x r : Int} (hs : Sat w h) (h1 : Res.cells g1 3 #[.int .i64 x] ∈ h) (h2 : Res.cells g2 46 #[.slice (some ⟨g1, 0, none⟩) 1 1] ∈ h) (h3 : Res.cells g3 3 #[.int .i64 r] ∈ h) : Dfa.Mem w (kD x r g1 g2 g3) := by
  refine ⟨(rd_one hs h2).congr fun i hi => ?_, fun i hi => ?_, (rd_one hs h3).congr fun i hi => ?_, (show 1 ≤ maxLen by decide), fun i => ?_, (show 1 ≤ maxLen by decide)⟩
  · obtain rfl : i = 0 := by omega
    rfl
  · obtain rfl : i = 0 := by have : (kD x r g1 g2 g3).next.length = 1 := rfl; omega
    refine (rd_one hs h1).congr fun i hi => ?_
    obtain rfl : i = 0 := by omega
    rfl
  · obtain rfl : i = 0 := by omega
    rfl
  · cases i with
    | zero => exact (show 1 ≤ maxLen by decide)
    | succ i => simp [Dfa.row, kD]
theorem kD_classes (x r : Int) (g1 g2 g3 : Nat) : Dfa.classes (kD x r g1 g2 g3) = 1 := (by decide +kernel : Dfa.clsGo (fun _ => 0) 256 0 0 = 1)
theorem kD_right (g1 g2 g3 : Nat) : Dfa.Right (kD 0 3 g1 g2 g3) := by
  refine ⟨(show 1 ≤ 1 by decide), (show 1 ≤ 1000 by decide), rfl, by rw [kD_classes]; decide, fun i hi => ?_⟩
  obtain rfl : i = 0 := by have : (kD 0 3 g1 g2 g3).next.length = 1 := rfl; omega
  refine ⟨(by decide : (-1 : Int) ≤ 3), (by decide : (3 : Int) < 32), by rw [kD_classes]; rfl, fun j hj => ?_⟩
  obtain rfl : j = 0 := by have : (Dfa.row (kD 0 3 g1 g2 g3) 0).length = 1 := rfl; omega
  exact ⟨(by decide : (0 : Int) ≤ 0), (by decide : (0 : Int) < 1)⟩
theorem kD_wrong (g1 g2 g3 : Nat) : ¬ Dfa.Right (kD 1 3 g1 g2 g3) := fun h => by
  have h1 := (h.2.2.2.2 0 (show 0 < 1 by decide)).2.2.2 0 (show 0 < 1 by decide)
  have h2 : (1 : Int) < 1 := h1.2
  omega
set_option maxRecDepth 20000 in
theorem kD_live {g1 g2 g3 : Nat} {l : List Bool} (h : Dfa.LiveOf (kD 0 3 g1 g2 g3) l) : l = [true] := by
  refine Dfa.live_unique h ?_
  unfold Dfa.LiveOf
  rw [if_pos (kD_right g1 g2 g3)]
  refine ⟨rfl, fun i hi => ?_⟩
  obtain rfl : i = 0 := by have : (kD 0 3 g1 g2 g3).next.length = 1 := rfl; omega
  exact ⟨fun _ => .base 0 hi (by decide : (0 : Int) ≤ 3), fun _ => rfl⟩
theorem kD_run (t : List UInt8) (g1 g2 g3 : Nat) : Dfa.run (kD 0 3 g1 g2 g3) t = 0 := by
  have := Dfa.run_ok (kD_right g1 g2 g3) t
  have hl : (kD 0 3 g1 g2 g3).next.length = 1 := rfl
  omega
theorem kD_after (t : List UInt8) (g1 g2 g3 : Nat) : Dfa.after (kD 0 3 g1 g2 g3) t = 3 := by
  unfold Dfa.after; rw [if_pos (kD_right g1 g2 g3), kD_run]; rfl
theorem kD_after2 (t : List UInt8) (g1 g2 g3 : Nat) : Dfa.after (kD 1 3 g1 g2 g3) t = -1 := by
  unfold Dfa.after; rw [if_neg (kD_wrong g1 g2 g3)]
theorem kD_step (b : UInt8) (g1 g2 g3 : Nat) : Dfa.step1 (kD 0 3 g1 g2 g3) 1 b = -1 := by
  unfold Dfa.step1; rw [if_pos]; exact .inr (.inr (by decide : (1 : Int) ≤ 1))
theorem kD_same (g1 g2 g3 : Nat) : Dfa.sameB (kD 0 3 g1 g2 g3) (kD 0 3 g1 g2 g3) = true := same_yes (alike_iff.2 fun _ _ => rfl) rfl rfl
theorem kD_other (g1 g2 g3 g4 g5 g6 : Nat) : Dfa.sameB (kD 0 3 g1 g2 g3) (kD 1 3 g4 g5 g6) = false := same_no2 (by simp [kD])
theorem d11 : decide (((1 : Nat) : Int) = 1) = true := rfl
theorem bv1 : Dfa.bv [true] = [.bool true] := by simp [Dfa.bv]
theorem u8_97 : Value.int .u8 97 = byte 97 := rfl

/-- A call that makes blocks, with what the heap says after it. -/
theorem RCall_newS {P : Program} {k : FuncId} {args : Array Value} {d : Option Nat} {ops rest : List Oper} {s : List Kn} {f : Fr} {h : List Res} {Q : Exit → Fr → List Res → Prop} {Φ : Value → List Res → Prop}
    (c : ∀ w, Sat w h → Does P k args w fun v w' => ∃ rs, Sat w' (rs ++ [.anchor w []]) ∧ Φ v rs) (hk : ∀ v rs, Φ v rs → (∃ w, Sat w (rs ++ h)) → RL P ops rest s (put f d v) (rs ++ h) Q) : RCall P k args ⟨d, ops, rest, s⟩ f h Q :=
  RCall_any fun w hs => (c w hs).mono fun v w' ⟨rs, hr, hv⟩ => ⟨rs ++ h, hs.join hr, hk v rs hv ⟨w', hs.join hr⟩⟩
theorem cells_ne {h : List Res} {g g' : Nat} {t t' : TypeId} {cs cs' : Array Value} (hs : ∃ w, Sat w (.cells g t cs :: h)) (hm : .cells g' t' cs' ∈ h) : g' ≠ g := by
  obtain ⟨w, _, _, h3, _⟩ := hs
  exact fun e => h3 _ hm g rfl e.symm
theorem hset_dC (g : Nat) (t : TypeId) (F F' : Nat → Int) (a a' b b' : Option Addr) (n c n' c' m k m' k' : Nat) (h : List Res) : hsetN ⟨g, 0, none⟩ (Dfa.dC (intsV F .i64) (.slice a n c) (.slice b m k)) 0 (.cells g t (List.toArray (Dfa.dC (intsV F' .i64) (.slice a' n' c') (.slice b' m' k'))) :: h) = some (.cells g t (List.toArray (Dfa.dC (intsV F .i64) (.slice a n c) (.slice b m k))) :: h) :=
  Dfa.hsetN_dC g t F F' a a' b b' a a' b b' n c n' c' m k m' k' h
theorem look_dC (g : Nat) (t : TypeId) (F : Nat → Int) (a b : Value) (h : List Res) : lookN ⟨g, 0, none⟩ 258 (.cells g t (List.toArray (Dfa.dC (intsV F .i64) a b)) :: h) = some (List.toArray (Dfa.dC (intsV F .i64) a b)) := by
  rw [lookN_same, if_pos (by rw [List.size_toArray, Dfa.dC_len]; decide)]
  exact congrArg some (Dfa.dC_all ..)

set_option maxRecDepth 20000 in
set_option maxHeartbeats 4000000 in
theorem dfa_known (w : World) : Does Try.prog 29 #[] w fun v w' => v = .bool true ∧ Ext [] w w' := by
  refine does (args := []) Try.func29 rfl (by kernel_rfl) (by kernel_rfl) rfl ent_29 (Sat.start w []) ?_; intro QV hQ
  simp -implicitDefEqProofs (disch := omega) only [go_sem]
  refine RRun_build1 ints_sl (by rfl) fun g1 hg1 => ?_
  simp -implicitDefEqProofs (disch := omega) only [go_sem]
  refine RRun_build1 intss_sl (by rfl) fun g2 hg2 => ?_
  simp -implicitDefEqProofs (disch := omega) only [go_sem]
  refine RRun_build1 ints_sl (by rfl) fun g3 hg3 => ?_
  simp only [below_cons, below_nil, under_anchor, under_cells, and_true] at hg1 hg2 hg3
  simp -implicitDefEqProofs (disch := omega) only [go_sem]
  refine RNew_intro fun g4 hg4 => ?_
  simp only [below_cons, below_nil, under_anchor, under_cells, and_true] at hg4
  simp -implicitDefEqProofs (disch := omega) only [go_sem]
  rw [hset_dC]
  simp -implicitDefEqProofs (disch := omega) only [go_sem]
  refine RRun_build1 ints_sl (by rfl) fun g5 hg5 => ?_
  simp only [below_cons, below_nil, under_anchor, under_cells, and_true] at hg5
  simp -implicitDefEqProofs (disch := omega) only [go_sem]
  refine RRun_build1 intss_sl (by rfl) fun g6 hg6 => ?_
  simp only [below_cons, below_nil, under_anchor, under_cells, and_true] at hg6
  simp -implicitDefEqProofs (disch := omega) only [go_sem]
  refine RRun_build1 ints_sl (by rfl) fun g7 hg7 => ?_
  simp only [below_cons, below_nil, under_anchor, under_cells, and_true] at hg7
  simp -implicitDefEqProofs (disch := omega) only [go_sem]
  refine RNew_intro fun g8 hg8 => ?_
  simp only [below_cons, below_nil, under_anchor, under_cells, and_true] at hg8
  simp -implicitDefEqProofs (disch := omega) only [go_sem]
  rw [hset_dC]
  simp -implicitDefEqProofs (disch := omega) only [go_sem]
  refine RCall_newS (fun w1 hs => dfa_live (kD 0 3 g1 g2 g3) w1 (kD_mem hs (by simp) (by simp) (by simp))) ?_
  rintro v rs ⟨l, hl, hb⟩ hw9
  obtain rfl := kD_live hl
  rcases hb with ⟨h, _⟩ | ⟨g9, rfl, rfl⟩
  · cases h
  have n4 : g4 ≠ g9 := cells_ne hw9 (by repeat (first | exact List.mem_cons_self | apply List.mem_cons_of_mem))
  have n8 : g8 ≠ g9 := cells_ne hw9 (by repeat (first | exact List.mem_cons_self | apply List.mem_cons_of_mem))
  simp -implicitDefEqProofs (disch := omega) only [go_sem, look_dC]
  refine RCall_eqS (fun w1 hs => dfa_right (kD 0 3 g1 g2 g3) w1 (kD_mem hs (by simp) (by simp) (by simp))) ?_
  simp -implicitDefEqProofs (disch := omega) only [go_sem, decide_eq_true (kD_right g1 g2 g3)]
  refine RCall_eqS (fun w1 hs => dfa_after (kD 0 3 g1 g2 g3) [97, 110, 121] (by decide) w1 (kD_mem hs (by simp) (by simp) (by simp))) ?_
  rw [kD_after]
  simp -implicitDefEqProofs (disch := omega) only [go_sem]
  refine RCall_eqS (fun w1 hs => dfa_run (kD 0 3 g1 g2 g3) [120] (by decide) w1 (kD_mem hs (by simp) (by simp) (by simp))) ?_
  rw [kD_run]
  simp -implicitDefEqProofs (disch := omega) only [go_sem]
  refine RCall_eqS (fun w1 hs => dfa_right (kD 1 3 g5 g6 g7) w1 (kD_mem hs (by simp) (by simp) (by simp))) ?_
  simp -implicitDefEqProofs (disch := omega) only [go_sem, decide_eq_false (kD_wrong g5 g6 g7)]
  refine RCall_eqS (fun w1 hs => dfa_after (kD 1 3 g5 g6 g7) [] (by decide) w1 (kD_mem hs (by simp) (by simp) (by simp))) ?_
  rw [kD_after2]
  simp -implicitDefEqProofs (disch := omega) only [go_sem, u8_97]
  refine RCall_eqS (fun w1 hs => dfa_step (kD 0 3 g1 g2 g3) 1 97 w1 (kD_mem hs (by simp) (by simp) (by simp))) ?_
  rw [kD_step]
  simp -implicitDefEqProofs (disch := omega) only [go_sem, d11, bv1]
  refine RCall_eqS (fun w1 hs => dfa_same (kD 0 3 g1 g2 g3) (kD 0 3 g1 g2 g3) w1 (kD_mem hs (by simp) (by simp) (by simp)) (kD_mem hs (by simp) (by simp) (by simp))) ?_
  rw [kD_same]
  simp -implicitDefEqProofs (disch := omega) only [go_sem]
  refine RCall_eqS (fun w1 hs => dfa_same (kD 0 3 g1 g2 g3) (kD 1 3 g5 g6 g7) w1 (kD_mem hs (by simp) (by simp) (by simp)) (kD_mem hs (by simp) (by simp) (by simp))) ?_
  rw [kD_other]
  simp -implicitDefEqProofs (disch := omega) only [go_sem]
  exact hQ _ _ fun w' hs => ⟨rfl, hs.anchor (by simp)⟩
end Go.Proofs.Ytpdckakccegofaa
