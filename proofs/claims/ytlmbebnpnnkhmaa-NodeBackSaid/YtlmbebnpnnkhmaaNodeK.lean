/- node's law: the walk: what must come of fixed calls. -/
import Derived.Test.YtlmbebnpnnkhmaaNodeJ
namespace Go.Proofs.Ytlmbebnpnnkhmaa
set_option linter.unusedSimpArgs false
set_option linter.unusedVariables false
open H
def kN : Nd.N := ⟨true, [(0, 3, 0)], []⟩
theorem kN_right : Nd.right kN = true := by decide +kernel
theorem kN_build : Nd.build kN = (Nd.bytes kN, 0) := by unfold Nd.build; rw [if_pos kN_right]
theorem kN_len : (Nd.bytes kN).length = 252 := Nd.bytes_len kN_right
theorem kN_nine : (Nd.bytes kN).take 9 = [1, 1, 0, 0, 0, 0, 3, 0, 1] := by decide +kernel
theorem n0_build : Nd.build Nd.n0 = ([], 4) := by decide +kernel
theorem nil_parse : Nd.parse [] = (Nd.n0, 2) := by unfold Nd.parse; rw [if_pos (by decide)]
theorem tk0_not : Nd.okT (0, 0, 0) = false := by decide +kernel
theorem three_cells {w : World} {h : List Res} {g : Nat} {t : TypeId} {l : List Tok.Tk} (hs : Sat w h) (hm : Res.cells g t (l.flatMap Tok.tkC).toArray ∈ h) : Rd w (some ⟨g, 0, none⟩) l.length 3 (ofL Tok.tkC Tok.tk0 l) := by
  refine rd_cells (hs.mem _ hm) 0 l.length 3 _ (hs.lt _ hm g rfl) (fun i _ => rfl) fun i j hi hj => ?_
  rw [← flat_ofL Tok.tkC Tok.tk0 l, Nat.zero_add, List.getElem?_toArray]
  exact flat_get (z := 3) (fun i _ => rfl) i j hi hj
theorem kn1 : kN.leaf = true := rfl
theorem kn2 : kN.toks.length = 1 := rfl
theorem kn3 : kN.kids.length = 0 := rfl
theorem zn1 : Nd.n0.leaf = false := rfl
theorem zn2 : Nd.n0.toks.length = 0 := rfl
theorem zn3 : Nd.n0.kids.length = 0 := rfl
theorem i252 : decide (((252 : Nat) : Int) = 252) = true := rfl
theorem i1 : decide (((1 : Nat) : Int) = 1) = true := rfl
set_option maxRecDepth 20000 in
set_option maxHeartbeats 4000000 in
theorem node_known (w : World) : Does Try.prog 12 #[] w fun v w' => v = .bool true ∧ Ext [] w w' := by
  refine does (args := []) Try.func12 rfl (by kernel_rfl) (by kernel_rfl) rfl ent_12 (Sat.start w []) ?_; intro QV hQ
  simp -implicitDefEqProofs (disch := omega) only [go_sem]
  refine RRun_build1z (cs := [.int .i64 0, .int .i64 3, .int .i64 0]) toks_sl rfl (by omega) fun gt hgt => ?_
  simp only [below_cons, below_nil, under_anchor, and_true] at hgt
  simp -implicitDefEqProofs (disch := omega) only [go_sem]
  refine RNew_intro fun g1 hg1 => ?_
  simp only [below_cons, below_nil, under_anchor, under_cells, and_true] at hg1
  have hK : ∀ w1 h, Sat w1 h → Res.cells gt 27 (List.toArray [.int .i64 0, .int .i64 3, .int .i64 0]) ∈ h → Nd.Mem w1 kN (some ⟨gt, 0, none⟩) none := fun w1 h hs hm => ⟨three_cells (l := [(0, 3, 0)]) hs hm, Rd.nil _ _ _ _⟩
  simp -implicitDefEqProofs (disch := omega) only [go_sem]
  refine RCall_eqS (u := .tuple #[str (Nd.bytes kN), .int .i64 0]) (fun w1 hs => ?_) ?_
  · have := node_build kN (some ⟨gt, 0, none⟩) none 1 0 (by decide) (by decide) w1 (hK w1 _ hs (by simp))
    rw [kN_build] at this
    exact this
  simp -implicitDefEqProofs (disch := omega) only [go_sem]
  refine RCall_newS (fun w1 hs => node_parse (Nd.bytes kN) (by rw [kN_len]; decide) w1) ?_
  rw [Nd.parse_bytes kN_right]
  rintro _ rs ⟨_, rfl, a1, c1, a2, c2, rfl, hc1, hc2, rfl⟩ _
  unfold Nd.nV
  simp -implicitDefEqProofs (disch := omega) only [go_sem, kn1, kn2, kn3]
  refine RNew_intro fun g4 hg4 => ?_
  have n14 : g1 ≠ g4 := by obtain ⟨_, _, h, _⟩ := hg4; exact Nat.ne_of_lt h
  simp -implicitDefEqProofs (disch := omega) only [go_sem, kn1, kn2, kn3]
  refine RCall_newS (fun w1 hs => node_parse [] (by decide) w1) ?_
  rw [nil_parse]
  rintro _ rs ⟨_, rfl, a3, c3, a4, c4, rfl, hc3, hc4, rfl⟩ _
  unfold Nd.nV
  simp -implicitDefEqProofs (disch := omega) only [go_sem, zn1, zn2, zn3]
  refine RNew_intro fun g6 hg6 => ?_
  have n16 : g1 ≠ g6 := by obtain ⟨_, _, _, _, _, h, _⟩ := hg6; exact Nat.ne_of_lt h
  have n46 : g4 ≠ g6 := by obtain ⟨_, _, h, _⟩ := hg6; exact Nat.ne_of_lt h
  simp -implicitDefEqProofs (disch := omega) only [go_sem, zn1, zn2, zn3]
  refine RCall_eqS (u := .tuple #[str [], .int .i64 4]) (fun w1 hs => ?_) ?_
  · have := node_build Nd.n0 none none 0 0 (by decide) (by decide) w1 ⟨Rd.nil _ _ _ _, Rd.nil _ _ _ _⟩
    rw [n0_build] at this
    exact this
  have hl := kN_len
  simp -implicitDefEqProofs (disch := omega) only [go_sem, kN_len, kN_nine, i252, i1, decide_true]
  refine RCall_eqS (u := .bool true) (fun w1 hs => ?_) ?_
  · have := node_right kN (some ⟨gt, 0, none⟩) none 1 0 (by decide) (by decide) w1 (hK w1 _ hs (by repeat (first | exact List.mem_cons_self | apply List.mem_cons_of_mem)))
    rw [kN_right] at this
    exact this
  simp -implicitDefEqProofs (disch := omega) only [go_sem]
  refine RCall_eq (u := .bool false) (fun w1 => ?_) ?_
  · have := node_token (0, 0, 0) w1
    rw [tk0_not] at this
    exact this
  simp -implicitDefEqProofs (disch := omega) only [go_sem]
  exact hQ _ _ fun w' hs => ⟨rfl, hs.anchor (by simp)⟩
end Go.Proofs.Ytlmbebnpnnkhmaa
