/- node and its reference: the walks: a node's bytes. -/
import Derived.Test.YtlmbebnpnnkhmaaNodeC
namespace Go.Proofs.Ytlmbebnpnnkhmaa
set_option linter.unusedSimpArgs false
set_option linter.unusedVariables false
open H
namespace Nd
def tailT (n : N) (i : Nat) : List UInt8 := hd n ++ (n.toks.take i).flatMap tB
def tailK (n : N) (i : Nat) : List UInt8 := hd n ++ n.toks.flatMap tB ++ (n.kids.take i).flatMap kB
theorem take_flat {g : Tk → List UInt8} {l : List Tk} {i : Nat} (h : i < l.length) : (l.take (i + 1)).flatMap g = (l.take i).flatMap g ++ g (l.getD i Tok.tk0) := by
  rw [Tok.take_succ h, List.flatMap_append]; simp
theorem tailT_succ {n : N} {i : Nat} (h : i < n.toks.length) : tailT n (i + 1) = tailT n i ++ tB (n.toks.getD i Tok.tk0) := by
  unfold tailT; rw [take_flat h, List.append_assoc]
theorem tailK_succ {n : N} {i : Nat} (h : i < n.kids.length) : tailK n (i + 1) = tailK n i ++ kB (n.kids.getD i Tok.tk0) := by
  unfold tailK; rw [take_flat h, ← List.append_assoc]
theorem tail_len {n : N} (h : right n = true) (i : Nat) : (tailT n i).length ≤ 1000 ∧ (tailK n i).length ≤ 1000 := by
  obtain ⟨h1, h2, h3⟩ := right_iff.1 h
  have l1 : ((n.toks.take i).flatMap tB).length ≤ 7 * 35 := by
    rw [flat_len _ (fun t ht => tB_len (up_mem h1 t (List.mem_of_mem_take ht))), List.length_take]
    rcases sizes_le h3 with ⟨_, k1, k2⟩ | ⟨_, k1, k2⟩
    · omega
    · rw [k1]; simp
  have l2 : (n.toks.flatMap tB).length ≤ 7 * 35 := by
    rw [flat_len _ (fun t ht => tB_len (up_mem h1 t ht))]
    rcases sizes_le h3 with ⟨_, k1, k2⟩ | ⟨_, k1, k2⟩
    · omega
    · rw [k1]; simp
  have l3 : ((n.kids.take i).flatMap kB).length ≤ 12 * 20 := by
    rw [flat_len _ (fun t ht => kB_len (up_mem h2 t (List.mem_of_mem_take ht))), List.length_take]
    rcases sizes_le h3 with ⟨_, k1, k2⟩ | ⟨_, k1, k2⟩
    · rw [k1]; simp
    · omega
  unfold tailT tailK
  rw [List.length_append, List.length_append, List.length_append, hd_len h3]
  omega
theorem nb_len (n wd : Int) : (nb n wd).length ≤ 8 := fixed_len n wd
theorem put2 (a b c d : Int) : putF [(a, b), (c, d)] = nb a b ++ nb c d := by simp [putF]
theorem put3 (a b c d e f : Int) : putF [(a, b), (c, d), (e, f)] = nb a b ++ nb c d ++ nb e f := by simp [putF]
end Nd
theorem field_sl : slT Try.prog 90 61 2 16 := slT_of (by kernel_rfl)
theorem fields_cells {w : World} {h : List Res} {g : Nat} {t : TypeId} {l : List (Int × Int)} (hs : Sat w h) (hm : Res.cells g t (l.flatMap Nd.fC).toArray ∈ h) : Rd w (some ⟨g, 0, none⟩) l.length 2 (ofL Nd.fC (0, 0) l) := by
  refine rd_cells (hs.mem _ hm) 0 l.length 2 _ (hs.lt _ hm g rfl) (fun i _ => rfl) fun i j hi hj => ?_
  rw [← flat_ofL Nd.fC (0, 0) l, Nat.zero_add, List.getElem?_toArray]
  exact flat_get (z := 2) (fun i _ => rfl) i j hi hj
set_option maxRecDepth 20000 in
set_option maxHeartbeats 4000000 in
theorem node_build (n : Nd.N) (a1 a2 : Option Addr) (c1 c2 : Nat) (hl1 : n.toks.length ≤ 2147483648) (hl2 : n.kids.length ≤ 2147483648) (w : World) (hm : Nd.Mem w n a1 a2) : Does Try.prog 13 #[Nd.nV n a1 c1 a2 c2] w fun v w' => v = .tuple #[str (Nd.build n).1, .int .i64 (Nd.build n).2] ∧ Ext [] w w' := by
  unfold Nd.nV
  refine does (args := [.agg #[.bool n.leaf, .slice a1 n.toks.length c1, .slice a2 n.kids.length c2]]) Try.func13 rfl (by kernel_rfl) (by kernel_rfl) rfl ent_13 (Sat.start w []) ?_; intro QV hQ
  simp -implicitDefEqProofs (disch := omega) only [go_sem]
  refine RNew_intro fun g hg => ?_
  simp only [below_cons, below_nil, under_anchor, and_true] at hg
  simp -implicitDefEqProofs (disch := omega) only [go_sem]
  refine RCall_eqS (fun w1 hs => node_right n a1 a2 c1 c2 hl1 hl2 w1 (hm.keep (hs.mem (.anchor w []) (by simp)))) ?_
  cases hr : Nd.right n with
  | false =>
    simp -implicitDefEqProofs (disch := omega) only [go_sem]
    exact hQ _ _ fun w' hs => ⟨by unfold Nd.build; rw [if_neg (by rw [hr]; simp)], hs.anchor (by simp)⟩
  | true =>
  have hb : Nd.build n = (Nd.bytes n, 0) := by unfold Nd.build; rw [if_pos hr]
  rw [hb] at hQ
  have h1 := (Nd.right_iff.1 hr).1
  have h2 := (Nd.right_iff.1 hr).2.1
  have hlen : n.toks.length + n.kids.length ≤ 35 := by
    rcases Nd.sizes_le (Nd.right_iff.1 hr).2.2 with ⟨_, k1, k2⟩ | ⟨_, k1, k2⟩
    · rw [k1]; simpa using k2
    · rw [k1]; simp; omega
  have hhd : ∀ k : Int, (k = if n.leaf = true then 1 else 2) → Nd.putF [(k, 1), ((n.toks.length : Int) + (n.kids.length : Int), 1)] = Nd.tailT n 0 := by
    intro k hk
    rw [Nd.put2, hk]; unfold Nd.tailT Nd.hd; simp
  have hm1 : ∀ w1 h, Sat w1 h → Res.anchor w [] ∈ h → Nd.Mem w1 n a1 a2 := fun w1 h hs hmm => hm.keep (hs.mem _ hmm)
  cases hlf : n.leaf with
  | true =>
    simp -implicitDefEqProofs (disch := omega) only [go_sem, hlf]
    refine RRun_buildz [.agg (List.toArray (Nd.fC (1, 1))), .agg (List.toArray (Nd.fC (((n.toks.length : Int) + (n.kids.length : Int)), 1)))] ([(1, 1), (((n.toks.length : Int) + (n.kids.length : Int)), 1)].flatMap Nd.fC) field_sl rfl rfl (by decide) (fun v hv => by
      simp only [List.mem_cons, List.not_mem_nil, or_false] at hv
      rcases hv with rfl | rfl <;> rfl) rfl (by decide) fun g2 hg2 => ?_
    simp only [below_cons, below_nil, under_anchor, under_cells, and_true] at hg2
    simp -implicitDefEqProofs (disch := omega) only [go_sem]
    refine RCall_eqS (fun w1 hs => node_put [(1, 1), (((n.toks.length : Int) + (n.kids.length : Int)), 1)] (some ⟨g2, 0, none⟩) 2 (by simp) (fun f hf => by
      simp only [List.mem_cons, List.not_mem_nil, or_false] at hf
      rcases hf with rfl | rfl
      · simp only []; omega
      · simp only []; omega) w1 (fields_cells (t := 61) hs List.mem_cons_self)) ?_
    rw [hhd 1 (by rw [hlf]; rfl)]
    simp -implicitDefEqProofs (disch := omega) only [go_sem, hlf]
    generalize hH : [Res.cells g2 61 (List.toArray ([(1, 1), (((n.toks.length : Int) + (n.kids.length : Int)), 1)].flatMap Nd.fC)), Res.cells g 35 #[.bool true, .slice a1 n.toks.length c1, .slice a2 n.kids.length c2], .anchor w []] = H at *
    refine RLoop_intro (fun f h => ∃ (i : Nat), i ≤ n.toks.length ∧ f 1 = .pointer (some ⟨g, 0, none⟩) ∧ f 5 = str (Nd.tailT n i) ∧ f 28 = .slice a1 n.toks.length c1 ∧ f 29 = .int .i64 (n.toks.length : Int) ∧ f 30 = .int .i64 (i : Int) ∧ h = H) (fun f _ => (n.toks.length - ival (f 30)).toNat) ?_ ?_
    · exact ⟨0, by omega, by (first | (simp -implicitDefEqProofs (disch := omega) only [go_sem]; done) | (simp -implicitDefEqProofs (disch := omega) only [go_sem]; rfl)), by (first | (simp -implicitDefEqProofs (disch := omega) only [go_sem]; done) | (simp -implicitDefEqProofs (disch := omega) only [go_sem]; rfl)), by (first | (simp -implicitDefEqProofs (disch := omega) only [go_sem]; done) | (simp -implicitDefEqProofs (disch := omega) only [go_sem]; rfl)), by (first | (simp -implicitDefEqProofs (disch := omega) only [go_sem]; done) | (simp -implicitDefEqProofs (disch := omega) only [go_sem]; rfl)), by (first | (simp -implicitDefEqProofs (disch := omega) only [go_sem]; done) | (simp -implicitDefEqProofs (disch := omega) only [go_sem]; rfl)), rfl⟩
    rintro f h ⟨i, hi, e1, e5, e28, e29, e30, rfl⟩ Q' hQ'
    subst hH
    by_cases hil : i < n.toks.length
    · have g1 : (i : Int) < (n.toks.length : Int) := by omega
      obtain ⟨b, o, rfl, hbb, hc, _⟩ := three_at hm.toks i hil
      have hnext := Nd.tailT_succ hil
      have hok := Nd.up_mem h1 _ (Nd.getD_mem hil)
      have htl := (Nd.tail_len hr i).1
      generalize n.toks.getD i Tok.tk0 = x at *
      obtain ⟨y1, y2, y3⟩ := Nd.okT_iff.1 hok
      have hxl := Nd.tB_len hok
      have hxe : Nd.nb x.1 4 ++ Nd.nb x.2.1 2 ++ Nd.nb (x.2.2 + 1) 1 = Nd.tB x := rfl
      simp -implicitDefEqProofs (disch := omega) only [go_sem, e1, e5, e28, e29, e30, g1, hc, decide_true]
      refine RNew_intro fun g3 hg3 => ?_
      simp only [below_cons, below_nil, under_anchor, under_cells, and_true] at hg3
      simp -implicitDefEqProofs (disch := omega) only [go_sem, e1, e5, e28, e29, e30]
      refine RRun_buildz [.agg (List.toArray (Nd.fC (x.1, 4))), .agg (List.toArray (Nd.fC (x.2.1, 2))), .agg (List.toArray (Nd.fC (x.2.2 + 1, 1)))] ([(x.1, 4), (x.2.1, 2), (x.2.2 + 1, 1)].flatMap Nd.fC) field_sl rfl rfl (by decide) (fun v hv => by
        simp only [List.mem_cons, List.not_mem_nil, or_false] at hv
        rcases hv with rfl | rfl | rfl <;> rfl) rfl (by decide) fun g4 hg4 => ?_
      simp -implicitDefEqProofs (disch := omega) only [go_sem]
      refine RCall_eqS (fun w1 hs => node_put [(x.1, 4), (x.2.1, 2), (x.2.2 + 1, 1)] (some ⟨g4, 0, none⟩) 3 (by simp) (fun f hf => by
        simp only [List.mem_cons, List.not_mem_nil, or_false] at hf
        rcases hf with rfl | rfl | rfl
        · simp only []; omega
        · simp only []; omega
        · simp only []; omega) w1 (fields_cells (t := 61) hs List.mem_cons_self)) ?_
      rw [Nd.put3, hxe]
      simp -implicitDefEqProofs (disch := omega) only [go_sem, e1, e5, e28, e29, e30]
      refine hQ' _ _ _ (fun _ hs => hs.2.2.2.2.2.2) ⟨i + 1, by omega, ?_, ?_, ?_, ?_, ?_, rfl⟩ ?_
      · (first | (simp -implicitDefEqProofs (disch := omega) only [go_sem, e1, e5, e28, e29, e30]; done) | (simp -implicitDefEqProofs (disch := omega) only [go_sem, e1, e5, e28, e29, e30]; rfl))
      · rw [hnext]; (first | (simp -implicitDefEqProofs (disch := omega) only [go_sem, e1, e5, e28, e29, e30]; done) | (simp -implicitDefEqProofs (disch := omega) only [go_sem, e1, e5, e28, e29, e30]; rfl))
      · (first | (simp -implicitDefEqProofs (disch := omega) only [go_sem, e1, e5, e28, e29, e30]; done) | (simp -implicitDefEqProofs (disch := omega) only [go_sem, e1, e5, e28, e29, e30]; rfl))
      · (first | (simp -implicitDefEqProofs (disch := omega) only [go_sem, e1, e5, e28, e29, e30]; done) | (simp -implicitDefEqProofs (disch := omega) only [go_sem, e1, e5, e28, e29, e30]; rfl))
      · (first | (simp -implicitDefEqProofs (disch := omega) only [go_sem, e1, e5, e28, e29, e30]; done) | (simp -implicitDefEqProofs (disch := omega) only [go_sem, e1, e5, e28, e29, e30]; rfl))
      · simp -implicitDefEqProofs (disch := omega) only [go_sem, e1, e5, e28, e29, e30]; omega
    have g1 : ¬ (i : Int) < (n.toks.length : Int) := by omega
    have e5' : f 5 = str (Nd.tailK n 0) := by
      rw [e5]; unfold Nd.tailT Nd.tailK; rw [List.take_of_length_le (by omega)]; simp
    simp -implicitDefEqProofs (disch := omega) only [go_sem, e1, e28, e29, e30, g1, decide_false]
    clear e5 e28 e29 e30 hQ' g1
    generalize hH : [Res.cells g2 61 (List.toArray ([(1, 1), (((n.toks.length : Int) + (n.kids.length : Int)), 1)].flatMap Nd.fC)), Res.cells g 35 #[.bool true, .slice a1 n.toks.length c1, .slice a2 n.kids.length c2], .anchor w []] = H at *
    refine RLoop_intro (fun f h => ∃ (i : Nat), i ≤ n.kids.length ∧ f 1 = .pointer (some ⟨g, 0, none⟩) ∧ f 5 = str (Nd.tailK n i) ∧ f 50 = .slice a2 n.kids.length c2 ∧ f 51 = .int .i64 (n.kids.length : Int) ∧ f 52 = .int .i64 (i : Int) ∧ h = H) (fun f _ => (n.kids.length - ival (f 52)).toNat) ?_ ?_
    · exact ⟨0, by omega, by (first | (simp -implicitDefEqProofs (disch := omega) only [go_sem, e1]; done) | (simp -implicitDefEqProofs (disch := omega) only [go_sem, e1]; rfl)), by (first | (simp -implicitDefEqProofs (disch := omega) only [go_sem, e5']; done) | (simp -implicitDefEqProofs (disch := omega) only [go_sem, e5']; rfl)), by (first | (simp -implicitDefEqProofs (disch := omega) only [go_sem]; done) | (simp -implicitDefEqProofs (disch := omega) only [go_sem]; rfl)), by (first | (simp -implicitDefEqProofs (disch := omega) only [go_sem]; done) | (simp -implicitDefEqProofs (disch := omega) only [go_sem]; rfl)), by (first | (simp -implicitDefEqProofs (disch := omega) only [go_sem]; done) | (simp -implicitDefEqProofs (disch := omega) only [go_sem]; rfl)), rfl⟩
    rintro f h ⟨j, hj, q1, q5, q50, q51, q52, rfl⟩ Q' hQ'
    subst hH
    by_cases hil : j < n.kids.length
    · have g1 : (j : Int) < (n.kids.length : Int) := by omega
      obtain ⟨b, o, rfl, hbb, hc, _⟩ := three_at hm.kids j hil
      have hnext := Nd.tailK_succ hil
      have hok := Nd.up_mem h2 _ (Nd.getD_mem hil)
      have htl := (Nd.tail_len hr j).2
      generalize n.kids.getD j Tok.tk0 = x at *
      obtain ⟨y1, y2, y3⟩ := Nd.okK_iff.1 hok
      have hxl := Nd.kB_len hok
      have hxe : Nd.nb x.1 4 ++ Nd.nb x.2.1 4 ++ Nd.nb x.2.2 4 = Nd.kB x := rfl
      simp -implicitDefEqProofs (disch := omega) only [go_sem, q1, q5, q50, q51, q52, g1, hc, decide_true]
      refine RNew_intro fun g3 hg3 => ?_
      simp only [below_cons, below_nil, under_anchor, under_cells, and_true] at hg3
      simp -implicitDefEqProofs (disch := omega) only [go_sem, q1, q5, q50, q51, q52]
      refine RRun_buildz [.agg (List.toArray (Nd.fC (x.1, 4))), .agg (List.toArray (Nd.fC (x.2.1, 4))), .agg (List.toArray (Nd.fC (x.2.2, 4)))] ([(x.1, 4), (x.2.1, 4), (x.2.2, 4)].flatMap Nd.fC) field_sl rfl rfl (by decide) (fun v hv => by
        simp only [List.mem_cons, List.not_mem_nil, or_false] at hv
        rcases hv with rfl | rfl | rfl <;> rfl) rfl (by decide) fun g4 hg4 => ?_
      simp -implicitDefEqProofs (disch := omega) only [go_sem]
      refine RCall_eqS (fun w1 hs => node_put [(x.1, 4), (x.2.1, 4), (x.2.2, 4)] (some ⟨g4, 0, none⟩) 3 (by simp) (fun f hf => by
        simp only [List.mem_cons, List.not_mem_nil, or_false] at hf
        rcases hf with rfl | rfl | rfl
        · simp only []; omega
        · simp only []; omega
        · simp only []; omega) w1 (fields_cells (t := 61) hs List.mem_cons_self)) ?_
      rw [Nd.put3, hxe]
      simp -implicitDefEqProofs (disch := omega) only [go_sem, q1, q5, q50, q51, q52]
      refine hQ' _ _ _ (fun _ hs => hs.2.2.2.2.2.2) ⟨j + 1, by omega, ?_, ?_, ?_, ?_, ?_, rfl⟩ ?_
      · (first | (simp -implicitDefEqProofs (disch := omega) only [go_sem, q1, q5, q50, q51, q52]; done) | (simp -implicitDefEqProofs (disch := omega) only [go_sem, q1, q5, q50, q51, q52]; rfl))
      · rw [hnext]; (first | (simp -implicitDefEqProofs (disch := omega) only [go_sem, q1, q5, q50, q51, q52]; done) | (simp -implicitDefEqProofs (disch := omega) only [go_sem, q1, q5, q50, q51, q52]; rfl))
      · (first | (simp -implicitDefEqProofs (disch := omega) only [go_sem, q1, q5, q50, q51, q52]; done) | (simp -implicitDefEqProofs (disch := omega) only [go_sem, q1, q5, q50, q51, q52]; rfl))
      · (first | (simp -implicitDefEqProofs (disch := omega) only [go_sem, q1, q5, q50, q51, q52]; done) | (simp -implicitDefEqProofs (disch := omega) only [go_sem, q1, q5, q50, q51, q52]; rfl))
      · (first | (simp -implicitDefEqProofs (disch := omega) only [go_sem, q1, q5, q50, q51, q52]; done) | (simp -implicitDefEqProofs (disch := omega) only [go_sem, q1, q5, q50, q51, q52]; rfl))
      · simp -implicitDefEqProofs (disch := omega) only [go_sem, q1, q5, q50, q51, q52]; omega
    have g1 : ¬ (j : Int) < (n.kids.length : Int) := by omega
    have q5' : f 5 = str (Nd.body n) := by
      rw [q5]; unfold Nd.tailK Nd.body; rw [List.take_of_length_le (by omega)]
    have hbl := Nd.body_le hr
    have hsub : (252 : Int) - ((Nd.body n).length : Int) = ((252 - (Nd.body n).length : Nat) : Int) := by omega
    simp -implicitDefEqProofs (disch := omega) only [go_sem, q1, q5', q50, q51, q52, g1, hsub, decide_false]
    refine RRun_make (n := 252 - (Nd.body n).length) (zv := byte 0) bytes_sl (by rw [zero_5]; rfl) (by omega) (by omega) fun g5 hg5 => ?_
    rw [Nat.mul_one, made_bytes]
    simp only [below_cons, below_nil, under_anchor, under_cells, and_true] at hg5
    simp -implicitDefEqProofs (disch := omega) only [go_sem]
    refine RRun_str_row0 bytes_t Try.underlying9 List.length_replicate ?_
    have hrl : (List.replicate (252 - (Nd.body n).length) (0 : UInt8)).length = 252 - (Nd.body n).length := List.length_replicate
    simp -implicitDefEqProofs (disch := omega) only [go_sem, q5', hrl]
    exact hQ _ _ fun w' hs => ⟨rfl, hs.anchor (by simp)⟩
  | false =>
    simp -implicitDefEqProofs (disch := omega) only [go_sem, hlf]
    refine RRun_buildz [.agg (List.toArray (Nd.fC (2, 1))), .agg (List.toArray (Nd.fC (((n.toks.length : Int) + (n.kids.length : Int)), 1)))] ([(2, 1), (((n.toks.length : Int) + (n.kids.length : Int)), 1)].flatMap Nd.fC) field_sl rfl rfl (by decide) (fun v hv => by
      simp only [List.mem_cons, List.not_mem_nil, or_false] at hv
      rcases hv with rfl | rfl <;> rfl) rfl (by decide) fun g2 hg2 => ?_
    simp only [below_cons, below_nil, under_anchor, under_cells, and_true] at hg2
    simp -implicitDefEqProofs (disch := omega) only [go_sem]
    refine RCall_eqS (fun w1 hs => node_put [(2, 1), (((n.toks.length : Int) + (n.kids.length : Int)), 1)] (some ⟨g2, 0, none⟩) 2 (by simp) (fun f hf => by
      simp only [List.mem_cons, List.not_mem_nil, or_false] at hf
      rcases hf with rfl | rfl
      · simp only []; omega
      · simp only []; omega) w1 (fields_cells (t := 61) hs List.mem_cons_self)) ?_
    rw [hhd 2 (by rw [hlf]; rfl)]
    simp -implicitDefEqProofs (disch := omega) only [go_sem, hlf]
    generalize hH : [Res.cells g2 61 (List.toArray ([(2, 1), (((n.toks.length : Int) + (n.kids.length : Int)), 1)].flatMap Nd.fC)), Res.cells g 35 #[.bool false, .slice a1 n.toks.length c1, .slice a2 n.kids.length c2], .anchor w []] = H at *
    refine RLoop_intro (fun f h => ∃ (i : Nat), i ≤ n.toks.length ∧ f 1 = .pointer (some ⟨g, 0, none⟩) ∧ f 5 = str (Nd.tailT n i) ∧ f 28 = .slice a1 n.toks.length c1 ∧ f 29 = .int .i64 (n.toks.length : Int) ∧ f 30 = .int .i64 (i : Int) ∧ h = H) (fun f _ => (n.toks.length - ival (f 30)).toNat) ?_ ?_
    · exact ⟨0, by omega, by (first | (simp -implicitDefEqProofs (disch := omega) only [go_sem]; done) | (simp -implicitDefEqProofs (disch := omega) only [go_sem]; rfl)), by (first | (simp -implicitDefEqProofs (disch := omega) only [go_sem]; done) | (simp -implicitDefEqProofs (disch := omega) only [go_sem]; rfl)), by (first | (simp -implicitDefEqProofs (disch := omega) only [go_sem]; done) | (simp -implicitDefEqProofs (disch := omega) only [go_sem]; rfl)), by (first | (simp -implicitDefEqProofs (disch := omega) only [go_sem]; done) | (simp -implicitDefEqProofs (disch := omega) only [go_sem]; rfl)), by (first | (simp -implicitDefEqProofs (disch := omega) only [go_sem]; done) | (simp -implicitDefEqProofs (disch := omega) only [go_sem]; rfl)), rfl⟩
    rintro f h ⟨i, hi, e1, e5, e28, e29, e30, rfl⟩ Q' hQ'
    subst hH
    by_cases hil : i < n.toks.length
    · have g1 : (i : Int) < (n.toks.length : Int) := by omega
      obtain ⟨b, o, rfl, hbb, hc, _⟩ := three_at hm.toks i hil
      have hnext := Nd.tailT_succ hil
      have hok := Nd.up_mem h1 _ (Nd.getD_mem hil)
      have htl := (Nd.tail_len hr i).1
      generalize n.toks.getD i Tok.tk0 = x at *
      obtain ⟨y1, y2, y3⟩ := Nd.okT_iff.1 hok
      have hxl := Nd.tB_len hok
      have hxe : Nd.nb x.1 4 ++ Nd.nb x.2.1 2 ++ Nd.nb (x.2.2 + 1) 1 = Nd.tB x := rfl
      simp -implicitDefEqProofs (disch := omega) only [go_sem, e1, e5, e28, e29, e30, g1, hc, decide_true]
      refine RNew_intro fun g3 hg3 => ?_
      simp only [below_cons, below_nil, under_anchor, under_cells, and_true] at hg3
      simp -implicitDefEqProofs (disch := omega) only [go_sem, e1, e5, e28, e29, e30]
      refine RRun_buildz [.agg (List.toArray (Nd.fC (x.1, 4))), .agg (List.toArray (Nd.fC (x.2.1, 2))), .agg (List.toArray (Nd.fC (x.2.2 + 1, 1)))] ([(x.1, 4), (x.2.1, 2), (x.2.2 + 1, 1)].flatMap Nd.fC) field_sl rfl rfl (by decide) (fun v hv => by
        simp only [List.mem_cons, List.not_mem_nil, or_false] at hv
        rcases hv with rfl | rfl | rfl <;> rfl) rfl (by decide) fun g4 hg4 => ?_
      simp -implicitDefEqProofs (disch := omega) only [go_sem]
      refine RCall_eqS (fun w1 hs => node_put [(x.1, 4), (x.2.1, 2), (x.2.2 + 1, 1)] (some ⟨g4, 0, none⟩) 3 (by simp) (fun f hf => by
        simp only [List.mem_cons, List.not_mem_nil, or_false] at hf
        rcases hf with rfl | rfl | rfl
        · simp only []; omega
        · simp only []; omega
        · simp only []; omega) w1 (fields_cells (t := 61) hs List.mem_cons_self)) ?_
      rw [Nd.put3, hxe]
      simp -implicitDefEqProofs (disch := omega) only [go_sem, e1, e5, e28, e29, e30]
      refine hQ' _ _ _ (fun _ hs => hs.2.2.2.2.2.2) ⟨i + 1, by omega, ?_, ?_, ?_, ?_, ?_, rfl⟩ ?_
      · (first | (simp -implicitDefEqProofs (disch := omega) only [go_sem, e1, e5, e28, e29, e30]; done) | (simp -implicitDefEqProofs (disch := omega) only [go_sem, e1, e5, e28, e29, e30]; rfl))
      · rw [hnext]; (first | (simp -implicitDefEqProofs (disch := omega) only [go_sem, e1, e5, e28, e29, e30]; done) | (simp -implicitDefEqProofs (disch := omega) only [go_sem, e1, e5, e28, e29, e30]; rfl))
      · (first | (simp -implicitDefEqProofs (disch := omega) only [go_sem, e1, e5, e28, e29, e30]; done) | (simp -implicitDefEqProofs (disch := omega) only [go_sem, e1, e5, e28, e29, e30]; rfl))
      · (first | (simp -implicitDefEqProofs (disch := omega) only [go_sem, e1, e5, e28, e29, e30]; done) | (simp -implicitDefEqProofs (disch := omega) only [go_sem, e1, e5, e28, e29, e30]; rfl))
      · (first | (simp -implicitDefEqProofs (disch := omega) only [go_sem, e1, e5, e28, e29, e30]; done) | (simp -implicitDefEqProofs (disch := omega) only [go_sem, e1, e5, e28, e29, e30]; rfl))
      · simp -implicitDefEqProofs (disch := omega) only [go_sem, e1, e5, e28, e29, e30]; omega
    have g1 : ¬ (i : Int) < (n.toks.length : Int) := by omega
    have e5' : f 5 = str (Nd.tailK n 0) := by
      rw [e5]; unfold Nd.tailT Nd.tailK; rw [List.take_of_length_le (by omega)]; simp
    simp -implicitDefEqProofs (disch := omega) only [go_sem, e1, e28, e29, e30, g1, decide_false]
    clear e5 e28 e29 e30 hQ' g1
    generalize hH : [Res.cells g2 61 (List.toArray ([(2, 1), (((n.toks.length : Int) + (n.kids.length : Int)), 1)].flatMap Nd.fC)), Res.cells g 35 #[.bool false, .slice a1 n.toks.length c1, .slice a2 n.kids.length c2], .anchor w []] = H at *
    refine RLoop_intro (fun f h => ∃ (i : Nat), i ≤ n.kids.length ∧ f 1 = .pointer (some ⟨g, 0, none⟩) ∧ f 5 = str (Nd.tailK n i) ∧ f 50 = .slice a2 n.kids.length c2 ∧ f 51 = .int .i64 (n.kids.length : Int) ∧ f 52 = .int .i64 (i : Int) ∧ h = H) (fun f _ => (n.kids.length - ival (f 52)).toNat) ?_ ?_
    · exact ⟨0, by omega, by (first | (simp -implicitDefEqProofs (disch := omega) only [go_sem, e1]; done) | (simp -implicitDefEqProofs (disch := omega) only [go_sem, e1]; rfl)), by (first | (simp -implicitDefEqProofs (disch := omega) only [go_sem, e5']; done) | (simp -implicitDefEqProofs (disch := omega) only [go_sem, e5']; rfl)), by (first | (simp -implicitDefEqProofs (disch := omega) only [go_sem]; done) | (simp -implicitDefEqProofs (disch := omega) only [go_sem]; rfl)), by (first | (simp -implicitDefEqProofs (disch := omega) only [go_sem]; done) | (simp -implicitDefEqProofs (disch := omega) only [go_sem]; rfl)), by (first | (simp -implicitDefEqProofs (disch := omega) only [go_sem]; done) | (simp -implicitDefEqProofs (disch := omega) only [go_sem]; rfl)), rfl⟩
    rintro f h ⟨j, hj, q1, q5, q50, q51, q52, rfl⟩ Q' hQ'
    subst hH
    by_cases hil : j < n.kids.length
    · have g1 : (j : Int) < (n.kids.length : Int) := by omega
      obtain ⟨b, o, rfl, hbb, hc, _⟩ := three_at hm.kids j hil
      have hnext := Nd.tailK_succ hil
      have hok := Nd.up_mem h2 _ (Nd.getD_mem hil)
      have htl := (Nd.tail_len hr j).2
      generalize n.kids.getD j Tok.tk0 = x at *
      obtain ⟨y1, y2, y3⟩ := Nd.okK_iff.1 hok
      have hxl := Nd.kB_len hok
      have hxe : Nd.nb x.1 4 ++ Nd.nb x.2.1 4 ++ Nd.nb x.2.2 4 = Nd.kB x := rfl
      simp -implicitDefEqProofs (disch := omega) only [go_sem, q1, q5, q50, q51, q52, g1, hc, decide_true]
      refine RNew_intro fun g3 hg3 => ?_
      simp only [below_cons, below_nil, under_anchor, under_cells, and_true] at hg3
      simp -implicitDefEqProofs (disch := omega) only [go_sem, q1, q5, q50, q51, q52]
      refine RRun_buildz [.agg (List.toArray (Nd.fC (x.1, 4))), .agg (List.toArray (Nd.fC (x.2.1, 4))), .agg (List.toArray (Nd.fC (x.2.2, 4)))] ([(x.1, 4), (x.2.1, 4), (x.2.2, 4)].flatMap Nd.fC) field_sl rfl rfl (by decide) (fun v hv => by
        simp only [List.mem_cons, List.not_mem_nil, or_false] at hv
        rcases hv with rfl | rfl | rfl <;> rfl) rfl (by decide) fun g4 hg4 => ?_
      simp -implicitDefEqProofs (disch := omega) only [go_sem]
      refine RCall_eqS (fun w1 hs => node_put [(x.1, 4), (x.2.1, 4), (x.2.2, 4)] (some ⟨g4, 0, none⟩) 3 (by simp) (fun f hf => by
        simp only [List.mem_cons, List.not_mem_nil, or_false] at hf
        rcases hf with rfl | rfl | rfl
        · simp only []; omega
        · simp only []; omega
        · simp only []; omega) w1 (fields_cells (t := 61) hs List.mem_cons_self)) ?_
      rw [Nd.put3, hxe]
      simp -implicitDefEqProofs (disch := omega) only [go_sem, q1, q5, q50, q51, q52]
      refine hQ' _ _ _ (fun _ hs => hs.2.2.2.2.2.2) ⟨j + 1, by omega, ?_, ?_, ?_, ?_, ?_, rfl⟩ ?_
      · (first | (simp -implicitDefEqProofs (disch := omega) only [go_sem, q1, q5, q50, q51, q52]; done) | (simp -implicitDefEqProofs (disch := omega) only [go_sem, q1, q5, q50, q51, q52]; rfl))
      · rw [hnext]; (first | (simp -implicitDefEqProofs (disch := omega) only [go_sem, q1, q5, q50, q51, q52]; done) | (simp -implicitDefEqProofs (disch := omega) only [go_sem, q1, q5, q50, q51, q52]; rfl))
      · (first | (simp -implicitDefEqProofs (disch := omega) only [go_sem, q1, q5, q50, q51, q52]; done) | (simp -implicitDefEqProofs (disch := omega) only [go_sem, q1, q5, q50, q51, q52]; rfl))
      · (first | (simp -implicitDefEqProofs (disch := omega) only [go_sem, q1, q5, q50, q51, q52]; done) | (simp -implicitDefEqProofs (disch := omega) only [go_sem, q1, q5, q50, q51, q52]; rfl))
      · (first | (simp -implicitDefEqProofs (disch := omega) only [go_sem, q1, q5, q50, q51, q52]; done) | (simp -implicitDefEqProofs (disch := omega) only [go_sem, q1, q5, q50, q51, q52]; rfl))
      · simp -implicitDefEqProofs (disch := omega) only [go_sem, q1, q5, q50, q51, q52]; omega
    have g1 : ¬ (j : Int) < (n.kids.length : Int) := by omega
    have q5' : f 5 = str (Nd.body n) := by
      rw [q5]; unfold Nd.tailK Nd.body; rw [List.take_of_length_le (by omega)]
    have hbl := Nd.body_le hr
    have hsub : (252 : Int) - ((Nd.body n).length : Int) = ((252 - (Nd.body n).length : Nat) : Int) := by omega
    simp -implicitDefEqProofs (disch := omega) only [go_sem, q1, q5', q50, q51, q52, g1, hsub, decide_false]
    refine RRun_make (n := 252 - (Nd.body n).length) (zv := byte 0) bytes_sl (by rw [zero_5]; rfl) (by omega) (by omega) fun g5 hg5 => ?_
    rw [Nat.mul_one, made_bytes]
    simp only [below_cons, below_nil, under_anchor, under_cells, and_true] at hg5
    simp -implicitDefEqProofs (disch := omega) only [go_sem]
    refine RRun_str_row0 bytes_t Try.underlying9 List.length_replicate ?_
    have hrl : (List.replicate (252 - (Nd.body n).length) (0 : UInt8)).length = 252 - (Nd.body n).length := List.length_replicate
    simp -implicitDefEqProofs (disch := omega) only [go_sem, q5', hrl]
    exact hQ _ _ fun w' hs => ⟨rfl, hs.anchor (by simp)⟩
end Go.Proofs.Ytlmbebnpnnkhmaa
