/- points' laws: the walk: what must come of fixed calls. -/
import Derived.Test.YtjcchmlideknpaaPtK
import Derived.Test.YtjcchmlideknpaaPtN
namespace Go.Proofs.Ytjcchmlideknpaa
set_option linter.unusedSimpArgs false
set_option linter.unusedVariables false
namespace H
/-- A call behind which all that was made stands still. -/
theorem RCall_ground {P : Program} {k : FuncId} {args : Array Value} {d : Option Nat} {ops rest : List Oper} {s : List Kn} {f : Fr} {h : List Res} {Q : Exit → Fr → List Res → Prop} {Φ : World → Value → World → Prop}
    (c : ∀ w, Sat w h → Does P k args w (Φ w)) (hk : ∀ w v w', Sat w h → Φ w v w' → RL P ops rest s (put f d v) [.anchor w' []] Q) : RCall P k args ⟨d, ops, rest, s⟩ f h Q :=
  RCall_any fun w hs => (c w hs).mono fun v w' hv => ⟨_, Sat.start w' [], hk w v w' hs hv⟩
end H
open H
theorem row_rd {α : Type} {w : World} {h : List Res} {g z : Nat} {t : TypeId} {cf : α → List Value} {d : α} {l : List α} (hz : ∀ x, (cf x).length = z) (hs : Sat w h) (hm : Res.cells g t (l.flatMap cf).toArray ∈ h) : Rd w (some ⟨g, 0, none⟩) l.length z (ofL cf d l) := by
  refine rd_cells (hs.mem _ hm) 0 l.length z _ (hs.lt _ hm g rfl) (fun i _ => hz _) fun i j hi hj => ?_
  rw [← flat_ofL cf d l, Nat.zero_add, List.getElem?_toArray]
  exact flat_get (z := z) (fun i _ => hz _) i j hi hj
theorem starts_sl : slT Try.prog 40 57 2 16 := slT_of (by kernel_rfl)
/-- What a call that makes points leaves, all standing still. -/
theorem new_still {w1 w' : World} {rs : List Res} {v0 : Value} {r : List Pt.P} (hs : Sat w' (rs ++ [.anchor w1 []])) (hn : NewPts v0 rs r) : ∃ a c, v0 = .slice a r.length c ∧ Ext [] w1 w' ∧ Rd w' a r.length 5 (ofL Pt.ptC Pt.p0 r) := by
  obtain ⟨a, c, rfl, hc, rfl⟩ := hn
  exact ⟨a, c, rfl, hs.mem (.anchor w1 []) (by simp), own_pts (c := c) hs (by simp)⟩
def kSt : List Pt.St := [(80, 0), (100, 5), (200, 9)]
def kTk : List Tok.Tk := [(0, 4, 0), (4, 6, 0)]
def kTx : List UInt8 := [97, 98, 99, 100, 101, 102, 103, 104, 105, 106]
def kP2 : Pt.P := ⟨200, 9, 1, 4, [97, 98, 99, 100, 101, 102, 103, 104, 105]⟩
def kPs : List Pt.P := [⟨80, 0, 0, 0, []⟩, kP2]
theorem kpick : Pt.pick kSt kTx kTk 6 = (kPs, 0) := by decide +kernel
theorem kright : Pt.Right kPs := by decide +kernel
theorem kin : ∀ p ∈ kPs, Pt.InR p := by
  intro p hp
  simp only [kPs, List.mem_cons, List.not_mem_nil, or_false] at hp
  rcases hp with rfl | rfl
  · exact ⟨⟨by decide, by decide⟩, ⟨by decide, by decide⟩, ⟨by decide, by decide⟩, ⟨by decide, by decide⟩, by decide⟩
  · exact ⟨⟨by decide, by decide⟩, ⟨by decide, by decide⟩, ⟨by decide, by decide⟩, ⟨by decide, by decide⟩, by decide⟩
theorem kbuild : (Pt.build kPs).2 = 0 := by unfold Pt.build; rw [if_pos kright]
theorem kblen : (Pt.build kPs).1.length ≤ 1000000 := by
  have h : kPs.length = 2 := rfl
  have h1 := Pt.flat_len (l := kPs) fun p hp => ⟨kin p hp, Pt.right_alone kright hp⟩
  have h2 := Pt.head_len kPs.length (by rw [h]; decide)
  have h3 := Pt.sumB_len (Pt.bytes kPs)
  unfold Pt.build
  rw [if_pos kright]
  simp only [List.length_append]
  unfold Pt.bytes at *
  rw [List.length_append]
  omega
theorem kparse : Pt.parse (Pt.build kPs).1 = (kPs, 0) := Pt.parse_back kPs (by decide) kin kright
theorem kparse0 : Pt.parse [] = ([], 2) := by unfold Pt.parse; rw [if_pos (by decide)]
theorem kbuild0 : Pt.build [] = ([], 4) := by decide +kernel
theorem knear8 : Pt.near kPs 8 = 0 := by decide +kernel
theorem knear9 : Pt.near kPs 9 = 1 := by decide +kernel
theorem knear1 : Pt.near kPs (-1) = -1 := by decide +kernel
theorem klen : kPs.length = 2 := rfl
theorem kgetD : kPs.getD 1 Pt.p0 = kP2 := rfl
set_option maxRecDepth 20000 in
set_option maxHeartbeats 4000000 in
theorem pts_known (w : World) : Does Try.prog 9 #[] w fun v w' => v = .bool true ∧ Ext [] w w' := by
  refine does (args := []) Try.func9 rfl (by kernel_rfl) (by kernel_rfl) rfl ent_9 (Sat.start w []) ?_; intro QV hQ
  simp -implicitDefEqProofs (disch := omega) only [go_sem]
  refine RRun_buildz [.agg #[.int .i64 0, .int .i64 4, .int .i64 0], .agg #[.int .i64 4, .int .i64 6, .int .i64 0]] (kTk.flatMap Tok.tkC) tok_sl rfl rfl (by decide) (fun v hv => by
    simp only [List.mem_cons, List.not_mem_nil, or_false] at hv
    rcases hv with rfl | rfl <;> rfl) rfl (by decide) fun gt hgt => ?_
  simp -implicitDefEqProofs (disch := omega) only [go_sem]
  refine RRun_buildz [.agg #[.int .i64 80, .int .i64 0], .agg #[.int .i64 100, .int .i64 5], .agg #[.int .i64 200, .int .i64 9]] (kSt.flatMap Pt.stC) starts_sl rfl rfl (by decide) (fun v hv => by
    simp only [List.mem_cons, List.not_mem_nil, or_false] at hv
    rcases hv with rfl | rfl | rfl <;> rfl) rfl (by decide) fun gs hgs => ?_
  simp -implicitDefEqProofs (disch := omega) only [go_sem]
  refine RCall_ground (fun w1 hs => pts_pick kSt kTx kTk 6 (some ⟨gs, 0, none⟩) (some ⟨gt, 0, none⟩) 3 2 (by decide) (by decide) (by decide) w1 (row_rd (fun _ => rfl) hs List.mem_cons_self) (row_rd (fun _ => rfl) hs (List.mem_cons_of_mem _ List.mem_cons_self))) ?_
  rintro w0 _ w1 hs0 ⟨rs, hs1, v0, rfl, hn⟩
  rw [kpick] at hn ⊢
  obtain ⟨a, c, rfl, hx1, hr1⟩ := new_still hs1 hn
  have hx01 : Ext [] w w1 := Ext.trans (hs0.anchor (by simp)) hx1
  clear hs0 hs1 hn hx1 hgt hgs
  simp -implicitDefEqProofs (disch := omega) only [go_sem, klen]
  refine RCall_eqS (fun w2 hs => pts_build kPs a c (by decide) kin w2 (hr1.keep (hs.anchor (by simp)))) ?_
  rw [kbuild]
  simp -implicitDefEqProofs (disch := omega) only [go_sem]
  refine RCall_ground (fun w2 hs => pts_parse (Pt.build kPs).1 kblen w2) ?_
  rintro w2 _ w3 hs2 ⟨rs, hs3, v0, rfl, hn⟩
  rw [kparse] at hn ⊢
  obtain ⟨a3, c3, rfl, hx3, hr3⟩ := new_still hs3 hn
  have hr1' := hr1.keep (Ext.trans (hs2.anchor (by simp)) hx3)
  have hx03 : Ext [] w w3 := Ext.trans hx01 (Ext.trans (hs2.anchor (by simp)) hx3)
  clear hs2 hs3 hn hx3 hr1 hx01
  simp -implicitDefEqProofs (disch := omega) only [go_sem, klen]
  refine RCall_ground (fun w2 hs => pts_parse [] (by decide) w2) ?_
  rintro w4 _ w5 hs4 ⟨rs, hs5, v0, rfl, hn⟩
  rw [kparse0] at hn ⊢
  obtain ⟨a5, c5, rfl, hx5, _⟩ := new_still hs5 hn
  have hx45 := Ext.trans (hs4.anchor (w0 := w3) (S := []) (by simp)) hx5
  have hr1 := hr1'.keep hx45
  have hr2 := hr3.keep hx45
  have hx05 := Ext.trans hx03 hx45
  clear hs4 hs5 hn hx5 hr1' hr3 hx03 hx45
  simp -implicitDefEqProofs (disch := omega) only [go_sem]
  refine RCall_eqS (u := .tuple #[str [], .int .i64 4]) (fun w6 hs => ?_) ?_
  · have := pts_build [] none 0 (by decide) (by simp) w6 (Rd.nil _ _ _ _)
    rw [kbuild0] at this
    exact this
  obtain ⟨b, o, rfl, hb, hc, _⟩ := pt_at hr1 1 (by rw [klen]; decide)
  rw [kgetD] at hc
  have e1 : kP2.bit = 200 := rfl
  have e2 : kP2.out = 9 := rfl
  have e3 : kP2.tok = 1 := rfl
  have e4 : kP2.frm = 4 := rfl
  have e5 : kP2.win = [97, 98, 99, 100, 101, 102, 103, 104, 105] := rfl
  rw [e1, e2, e3, e4, e5] at hc
  rw [Nat.one_mul] at hc
  have i2 : decide (((2 : Nat) : Int) = 2) = true := rfl
  have i3 : (1 : Int) < ((2 : Nat) : Int) := by decide
  have hso := right_sorted kright
  simp -implicitDefEqProofs (disch := omega) only [go_sem, klen, hc, i2, i3, decide_true, Bool.and_self]
  refine RCall_eqS (u := .bool true) (fun w6 hs => ?_) ?_
  · have := pts_same kPs kPs a3 (some ⟨b, o, none⟩) c3 c (by decide) (by decide) w6 (hr2.keep (hs.anchor (by simp))) (hr1.keep (hs.anchor (by simp)))
    rwa [decide_eq_true rfl] at this
  simp -implicitDefEqProofs (disch := omega) only [go_sem]
  refine RCall_eqS (u := .int .i64 0) (fun w6 hs => ?_) ?_
  · have := pts_near kPs (some ⟨b, o, none⟩) c 8 (by decide) hso w6 (hr1.keep (hs.anchor (by simp)))
    rwa [knear8] at this
  simp -implicitDefEqProofs (disch := omega) only [go_sem]
  refine RCall_eqS (u := .int .i64 1) (fun w6 hs => ?_) ?_
  · have := pts_near kPs (some ⟨b, o, none⟩) c 9 (by decide) hso w6 (hr1.keep (hs.anchor (by simp)))
    rwa [knear9] at this
  simp -implicitDefEqProofs (disch := omega) only [go_sem]
  refine RCall_eqS (u := .int .i64 (-1)) (fun w6 hs => ?_) ?_
  · have := pts_near kPs (some ⟨b, o, none⟩) c (-1) (by decide) hso w6 (hr1.keep (hs.anchor (by simp)))
    rwa [knear1] at this
  simp -implicitDefEqProofs (disch := omega) only [go_sem]
  refine RCall_eqS (u := .bool true) (fun w6 hs => ?_) ?_
  · have := pts_right kPs (some ⟨b, o, none⟩) c (by decide) kin w6 (hr1.keep (hs.anchor (by simp)))
    rwa [decide_eq_true kright] at this
  simp -implicitDefEqProofs (disch := omega) only [go_sem]
  exact hQ _ _ fun w' hs => ⟨rfl, Ext.trans hx05 (hs.anchor (by simp))⟩
end Go.Proofs.Ytjcchmlideknpaa
