/- table: the walks: numbers laid down, sums, runs of classes. -/
import Derived.Test.YtldidoaagijnhaaVintTF
import Derived.Test.YtldidoaagijnhaaCrcF
import Derived.Test.YtldidoaagijnhaaTbM
import Derived.Test.YtldidoaagijnhaaDfaEY4
import Derived.Test.YtldidoaagijnhaaJoin
import Derived.Test.YtldidoaagijnhaaSegF
import Derived.Test.YtldidoaagijnhaaBytes
namespace Go.Proofs.Ytldidoaagijnhaa
set_option linter.unusedSimpArgs false
set_option linter.unusedVariables false
open H
theorem tints_sl : slT Try.prog 46 3 1 8 := slT_of (by kernel_rfl)
def iv (l : List Int) : List Value := l.map (.int .i64)
theorem iv_rd {w : World} {h : List Res} {g : Nat} {t : TypeId} {l : List Int} (hs : Sat w h) (hm : Res.cells g t (List.toArray (iv l)) ∈ h) : Rd w (some ⟨g, 0, none⟩) l.length 1 (ofL (fun x => [.int .i64 x]) 0 l) := by
  refine rd_cells (hs.mem _ hm) 0 l.length 1 _ (hs.lt _ hm g rfl) (fun i _ => rfl) fun i j hi hj => ?_
  obtain rfl : j = 0 := by omega
  rw [List.getElem?_toArray]
  simp [iv, ofL, List.getElem?_eq_getElem hi]
theorem int_at {w : World} {a : Option Addr} {l : List Int} (hr : Rd w a l.length 1 (ofL (fun x => [.int .i64 x]) 0 l)) (i : Nat) (hi : i < l.length) : ∃ b o, a = some ⟨b, o, none⟩ ∧ b < w.heap.size ∧ w.cell? ⟨b, o + i, none⟩ = some (.int .i64 (l.getD i 0)) := by
  obtain ⟨b, o, e, hb, hc, hj⟩ := hr.at_ i hi
  have := hj 0 (by omega)
  rw [Nat.mul_one, Nat.add_zero] at this
  exact ⟨b, o, e, hb, this⟩
theorem putS_take {l : List Int} {i : Nat} (h : i < l.length) : Tb.putS (l.take (i + 1)) = Tb.putS (l.take i) ++ (Vint.put (l.getD i 0)).1 := by
  rw [List.take_add_one, List.getElem?_eq_getElem h, Option.toList_some, Tb.putS_snoc, List.getD_eq_getElem?_getD, List.getElem?_eq_getElem h]; rfl
set_option maxHeartbeats 1000000 in
theorem tb_put (l : List Int) (a : Option Addr) (c : Nat) (hl : l.length ≤ 1000000) (hin : ∀ n ∈ l, Tb.In64 n) (w : World) (hr : Rd w a l.length 1 (ofL (fun x => [.int .i64 x]) 0 l)) : Does Try.prog 52 #[.slice a l.length c] w fun v w' => v = str (Tb.putS l) ∧ Ext [] w w' := by
  refine does (args := [.slice a l.length c]) Try.func52 rfl (by kernel_rfl) (by kernel_rfl) rfl ent_52 (Sat.start w []) ?_; intro QV hQ
  simp -implicitDefEqProofs (disch := omega) only [go_sem]
  refine RLoop_intro (fun f h => ∃ (i : Nat), i ≤ l.length ∧ f 3 = str (Tb.putS (l.take i)) ∧ f 8 = .slice a l.length c ∧ f 9 = .int .i64 (l.length : Int) ∧ f 10 = .int .i64 (i : Int) ∧ h = [.anchor w []]) (fun f _ => (l.length - ival (f 10)).toNat) ?_ ?_
  · exact ⟨0, by omega, by (first | (simp -implicitDefEqProofs (disch := omega) only [go_sem]; done) | (simp -implicitDefEqProofs (disch := omega) only [go_sem]; rfl)), by (first | (simp -implicitDefEqProofs (disch := omega) only [go_sem]; done) | (simp -implicitDefEqProofs (disch := omega) only [go_sem]; rfl)), by (first | (simp -implicitDefEqProofs (disch := omega) only [go_sem]; done) | (simp -implicitDefEqProofs (disch := omega) only [go_sem]; rfl)), by (first | (simp -implicitDefEqProofs (disch := omega) only [go_sem]; done) | (simp -implicitDefEqProofs (disch := omega) only [go_sem]; rfl)), rfl⟩
  rintro f h ⟨i, hi, e3, e8, e9, e10, rfl⟩ Q' hQ'
  by_cases hil : i < l.length
  · have g1 : (i : Int) < (l.length : Int) := by omega
    obtain ⟨b, o, rfl, hbb, hc⟩ := int_at hr i hil
    have hnext := putS_take hil
    have hlen := Tb.putS_len (l.take i) fun n hn => (hin n (List.mem_of_mem_take hn)).2
    rw [List.length_take] at hlen
    have hbi := hin (l.getD i 0) (by rw [List.getD_eq_getElem?_getD, List.getElem?_eq_getElem hil]; exact List.getElem_mem _)
    generalize l.getD i 0 = x at *
    have hlen2 := Tb.put_len hbi.2
    simp -implicitDefEqProofs (disch := omega) only [go_sem, e3, e8, e9, e10, g1, hc, decide_true]
    refine RCall_eq (vint_put x hbi) ?_
    simp -implicitDefEqProofs (disch := omega) only [go_sem, e3, e8, e9, e10]
    refine hQ' _ _ _ (fun _ hs => hs) ⟨i + 1, by omega, ?_, ?_, ?_, ?_, rfl⟩ ?_
    · rw [hnext]; (first | (simp -implicitDefEqProofs (disch := omega) only [go_sem, e3, e8, e9, e10]; done) | (simp -implicitDefEqProofs (disch := omega) only [go_sem, e3, e8, e9, e10]; rfl))
    · (first | (simp -implicitDefEqProofs (disch := omega) only [go_sem, e3, e8, e9, e10]; done) | (simp -implicitDefEqProofs (disch := omega) only [go_sem, e3, e8, e9, e10]; rfl))
    · (first | (simp -implicitDefEqProofs (disch := omega) only [go_sem, e3, e8, e9, e10]; done) | (simp -implicitDefEqProofs (disch := omega) only [go_sem, e3, e8, e9, e10]; rfl))
    · (first | (simp -implicitDefEqProofs (disch := omega) only [go_sem, e3, e8, e9, e10]; done) | (simp -implicitDefEqProofs (disch := omega) only [go_sem, e3, e8, e9, e10]; rfl))
    · simp -implicitDefEqProofs (disch := omega) only [go_sem, e3, e8, e9, e10]; omega
  · have g1 : ¬ (i : Int) < (l.length : Int) := by omega
    rw [List.take_of_length_le (by omega)] at e3
    simp -implicitDefEqProofs (disch := omega) only [go_sem, e3, e8, e9, e10, g1, decide_false]
    exact hQ _ _ fun w' hs => ⟨rfl, hs.anchor (by simp)⟩
theorem tcrc_fix (s : List UInt8) : (Vint.fixed ((Crc.of s).toNat : Int) 4).1 = Tb.sumB s := by
  have h := (Crc.of s).isLt
  unfold Vint.fixed Tb.sumB
  rw [if_neg (by unfold Vint.wide; omega), if_pos]
  · rfl
  · rw [Int.toNat_natCast]
    exact Nat.div_eq_of_lt h
theorem tb_sum (s : List UInt8) (hl : s.length ≤ 9223372036854775807) (w : World) : Does Try.prog 54 #[str s] w fun v w' => v = str (Tb.sumB s) ∧ Ext [] w w' := by
  refine does (args := [str s]) Try.func54 rfl (by kernel_rfl) (by kernel_rfl) rfl ent_54 (Sat.start w []) ?_; intro QV hQ
  have hlt := (Crc.of s).isLt
  simp -implicitDefEqProofs (disch := omega) only [go_sem]
  refine RCall_eq (crc_of s hl) ?_
  simp -implicitDefEqProofs (disch := omega) only [go_sem]
  refine RCall_eq (vint_fixed _ 4 (by omega)) ?_
  simp -implicitDefEqProofs (disch := omega) only [go_sem]
  exact hQ _ _ fun w' hs => ⟨by rw [tcrc_fix], hs.anchor (by simp)⟩
namespace Tb
theorem runsGo_len (F : Nat → Int) (hF : ∀ i, i < 256 → F i ≤ 9223372036854775807) : ∀ (k c from_ : Nat), c + k ≤ 257 → from_ ≤ 255 → (runsGo F k c from_).length ≤ 18 * k
  | 0, _, _, _, _ => by simp [runsGo]
  | k + 1, c, from_, hc, hf => by
    unfold runsGo
    split
    · have h1 := putS_len [F from_, ((c - from_ : Nat) : Int)] (by
        intro n hn
        simp only [List.mem_cons, List.not_mem_nil, or_false] at hn
        rcases hn with rfl | rfl
        · exact hF from_ (by omega)
        · omega)
      simp only [List.length_cons, List.length_nil] at h1
      by_cases hc2 : c ≤ 255
      · have h2 := runsGo_len F hF k (c + 1) c (by omega) hc2
        rw [List.length_append]; omega
      · have hk : k = 0 := by omega
        subst hk
        rw [List.length_append]
        simp [runsGo]
        omega
    · have h2 := runsGo_len F hF k (c + 1) from_ (by omega) hf
      omega
end Tb
set_option maxRecDepth 20000 in
set_option maxHeartbeats 2000000 in
theorem tb_runs (F : Nat → Int) (hF : ∀ i, i < 256 → Tb.In64 (F i)) (w : World) : Does Try.prog 53 #[.agg (List.toArray (vals 256 (intsV F .i64)))] w fun v w' => v = str (Tb.runs F) ∧ Ext [] w w' := by
  refine does (args := [.agg (List.toArray (vals 256 (intsV F .i64)))]) Try.func53 rfl (by kernel_rfl) (by kernel_rfl) rfl ent_53 (Sat.start w []) ?_; intro QV hQ
  simp -implicitDefEqProofs (disch := omega) only [go_sem]
  refine RNew_intro fun g1 hg1 => ?_
  simp -implicitDefEqProofs (disch := omega) only [go_sem]
  refine RLoop_from (fun f h => ∃ (c from_ : Nat) (s : List UInt8), c ≤ 257 ∧ (c ≤ 256 → from_ ≤ 255 ∧ from_ ≤ c) ∧ s.length ≤ 18 * c ∧ s ++ Tb.runsGo F (257 - c) c from_ = Tb.runs F ∧ f 1 = .pointer (some ⟨g1, 0, none⟩) ∧ f 3 = str s ∧ f 4 = .int .i64 (from_ : Int) ∧ f 6 = .int .i64 (c : Int) ∧
    h = [.cells g1 44 (List.toArray (vals 256 (intsV F .i64))), .anchor w []]) (fun f _ => (257 - ival (f 6)).toNat) ?_ ?_
  · exact fun w1 hs => ⟨_, hs, 0, 0, [], by omega, by omega, by simp, rfl, by (first | (simp -implicitDefEqProofs (disch := omega) only [go_sem]; done) | (simp -implicitDefEqProofs (disch := omega) only [go_sem]; rfl)), by (first | (simp -implicitDefEqProofs (disch := omega) only [go_sem]; done) | (simp -implicitDefEqProofs (disch := omega) only [go_sem]; rfl)), by (first | (simp -implicitDefEqProofs (disch := omega) only [go_sem]; done) | (simp -implicitDefEqProofs (disch := omega) only [go_sem]; rfl)), by (first | (simp -implicitDefEqProofs (disch := omega) only [go_sem]; done) | (simp -implicitDefEqProofs (disch := omega) only [go_sem]; rfl)), rfl⟩
  rintro f h ⟨c, from_, s, hc, hfc, hsl, hgo, e1, e3, e4, e6, rfl⟩ Q' hQ'
  have hmi : ival (f 6) = (c : Int) := by rw [e6]; rfl
  by_cases hlt : c < 257
  rotate_left
  · have g0 : ¬ (c : Int) < 257 := by omega
    rw [show 257 - c = 0 by omega, Tb.runsGo, List.append_nil] at hgo
    simp -implicitDefEqProofs (disch := omega) only [go_sem, e1, e3, e4, e6, g0, decide_false]
    exact hQ _ _ fun w' hs => ⟨by rw [hgo], hs.anchor (by simp)⟩
  have g0 : (c : Int) < 257 := by omega
  obtain ⟨hf, hfc⟩ := hfc (by omega)
  rw [show 257 - c = (257 - (c + 1)) + 1 by omega, Tb.runsGo] at hgo
  have hff := hF from_ (by omega)
  have gf : (from_ : Int) < 256 := by omega
  have hcf : (c : Int) - (from_ : Int) = ((c - from_ : Nat) : Int) := by omega
  have hpl := Tb.putS_len [F from_, ((c - from_ : Nat) : Int)] (by
    intro n hn
    simp only [List.mem_cons, List.not_mem_nil, or_false] at hn
    rcases hn with rfl | rfl
    · exact hff.2
    · omega)
  simp only [List.length_cons, List.length_nil] at hpl
  have hin : ∀ n ∈ [F from_, ((c - from_ : Nat) : Int)], Tb.In64 n := by
    intro n hn
    simp only [List.mem_cons, List.not_mem_nil, or_false] at hn
    rcases hn with rfl | rfl
    · exact hff
    · exact ⟨by omega, by omega⟩
  have hcase : c = 256 ∨ (¬ c = 256 ∧ (F c ≠ F from_ ∨ F c = F from_)) := by
    by_cases h : c = 256
    · exact .inl h
    · exact .inr ⟨h, (Decidable.em (F c = F from_)).symm⟩
  simp -implicitDefEqProofs (disch := omega) only [go_sem, e1, e3, e4, e6, g0, decide_true]
  refine RDraw_seg (by kernel_rfl) (by kernel_rfl) 11 rfl ?_
  refine RS_det (by kernel_rfl) ?_
  rcases hcase with rfl | ⟨hne, hdiff | hsame⟩
  · have d1 : decide (((256 : Nat) : Int) = 256) = true := rfl
    rw [if_pos (.inl rfl)] at hgo
    repeat (first | refine ToO_step (fun Q hq => by (simp -implicitDefEqProofs (disch := omega) only [go_sem, e1, e3, e4, e6, d1, intsV]; exact hq)) ?_ | refine ToO_guard (by (simp -implicitDefEqProofs only [go_sem, e1, e3, e4, e6, d1, intsV]; first | done | fail)) (fun Q hq => by (simp -implicitDefEqProofs (disch := omega) only [go_sem, e1, e3, e4, e6, d1, intsV]; exact hq)) ?_ | refine ToO_skip (.inl (by (simp -implicitDefEqProofs only [go_sem, e1, e3, e4, e6, d1, intsV]; first | done | fail))) ?_ | refine ToO_skip (.inr (by (simp -implicitDefEqProofs only [go_sem, e1, e3, e4, e6, d1, intsV]; first | done | fail))) ?_)
    refine ToO_nil ?_
    simp -implicitDefEqProofs (disch := omega) only [go_sem, e1, e3, e4, e6, gf, hcf, intsV]
    refine RRun_buildz [.int .i64 (F from_), .int .i64 ((256 - from_ : Nat) : Int)] (iv [F from_, ((256 - from_ : Nat) : Int)]) tints_sl rfl rfl (by decide) (fun v hv => by
      simp only [List.mem_cons, List.not_mem_nil, or_false] at hv
      rcases hv with rfl | rfl <;> rfl) rfl (by decide) fun gw hgw => ?_
    simp -implicitDefEqProofs (disch := omega) only [go_sem, e1, e3, e4, e6]
    refine RCall_eqS (fun w1 hs => tb_put [F from_, ((256 - from_ : Nat) : Int)] (some ⟨gw, 0, none⟩) 2 (by simp) hin w1 (iv_rd (t := 3) hs List.mem_cons_self)) ?_
    simp -implicitDefEqProofs (disch := omega) only [go_sem, e1, e3, e4, e6]
    refine hQ' _ _ fun w1 hs => ⟨_, hs.2.2.2, ⟨257, 256, s ++ Tb.putS [F from_, ((256 - from_ : Nat) : Int)], by omega, by omega, by rw [List.length_append]; omega, by rw [← hgo]; simp [Tb.runsGo], ?_, ?_, ?_, ?_, rfl⟩, ?_⟩
    · (first | (simp -implicitDefEqProofs (disch := omega) only [go_sem, e1, e3, e4, e6]; done) | (simp -implicitDefEqProofs (disch := omega) only [go_sem, e1, e3, e4, e6]; rfl))
    · (first | (simp -implicitDefEqProofs (disch := omega) only [go_sem, e1, e3, e4, e6]; done) | (simp -implicitDefEqProofs (disch := omega) only [go_sem, e1, e3, e4, e6]; rfl))
    · (first | (simp -implicitDefEqProofs (disch := omega) only [go_sem, e1, e3, e4, e6]; done) | (simp -implicitDefEqProofs (disch := omega) only [go_sem, e1, e3, e4, e6]; rfl))
    · (first | (simp -implicitDefEqProofs (disch := omega) only [go_sem, e1, e3, e4, e6]; done) | (simp -implicitDefEqProofs (disch := omega) only [go_sem, e1, e3, e4, e6]; rfl))
    · simp -implicitDefEqProofs (disch := omega) only [go_sem, e1, e3, e4, e6, hmi]; omega
  · have d1 : decide ((c : Int) = 256) = false := decide_eq_false (by omega)
    have gc : (c : Int) < 256 := by omega
    have d2 : decide (F c = F from_) = false := decide_eq_false hdiff
    rw [if_pos (.inr hdiff)] at hgo
    repeat (first | refine ToO_step (fun Q hq => by (simp -implicitDefEqProofs (disch := omega) only [go_sem, e1, e3, e4, e6, d1, gc, gf, intsV, d2]; exact hq)) ?_ | refine ToO_guard (by (simp -implicitDefEqProofs only [go_sem, e1, e3, e4, e6, d1, gc, gf, intsV, d2]; first | done | fail)) (fun Q hq => by (simp -implicitDefEqProofs (disch := omega) only [go_sem, e1, e3, e4, e6, d1, gc, gf, intsV, d2]; exact hq)) ?_ | refine ToO_skip (.inl (by (simp -implicitDefEqProofs only [go_sem, e1, e3, e4, e6, d1, gc, gf, intsV, d2]; first | done | fail))) ?_ | refine ToO_skip (.inr (by (simp -implicitDefEqProofs only [go_sem, e1, e3, e4, e6, d1, gc, gf, intsV, d2]; first | done | fail))) ?_)
    refine ToO_nil ?_
    simp -implicitDefEqProofs (disch := omega) only [go_sem, e1, e3, e4, e6, gf, hcf, intsV]
    refine RRun_buildz [.int .i64 (F from_), .int .i64 ((c - from_ : Nat) : Int)] (iv [F from_, ((c - from_ : Nat) : Int)]) tints_sl rfl rfl (by decide) (fun v hv => by
      simp only [List.mem_cons, List.not_mem_nil, or_false] at hv
      rcases hv with rfl | rfl <;> rfl) rfl (by decide) fun gw hgw => ?_
    simp -implicitDefEqProofs (disch := omega) only [go_sem, e1, e3, e4, e6]
    refine RCall_eqS (fun w1 hs => tb_put [F from_, ((c - from_ : Nat) : Int)] (some ⟨gw, 0, none⟩) 2 (by simp) hin w1 (iv_rd (t := 3) hs List.mem_cons_self)) ?_
    simp -implicitDefEqProofs (disch := omega) only [go_sem, e1, e3, e4, e6]
    refine hQ' _ _ fun w1 hs => ⟨_, hs.2.2.2, ⟨c + 1, c, s ++ Tb.putS [F from_, ((c - from_ : Nat) : Int)], by omega, by omega, by rw [List.length_append]; omega, by rw [← hgo, List.append_assoc], ?_, ?_, ?_, ?_, rfl⟩, ?_⟩
    · (first | (simp -implicitDefEqProofs (disch := omega) only [go_sem, e1, e3, e4, e6]; done) | (simp -implicitDefEqProofs (disch := omega) only [go_sem, e1, e3, e4, e6]; rfl))
    · (first | (simp -implicitDefEqProofs (disch := omega) only [go_sem, e1, e3, e4, e6]; done) | (simp -implicitDefEqProofs (disch := omega) only [go_sem, e1, e3, e4, e6]; rfl))
    · (first | (simp -implicitDefEqProofs (disch := omega) only [go_sem, e1, e3, e4, e6]; done) | (simp -implicitDefEqProofs (disch := omega) only [go_sem, e1, e3, e4, e6]; rfl))
    · (first | (simp -implicitDefEqProofs (disch := omega) only [go_sem, e1, e3, e4, e6]; done) | (simp -implicitDefEqProofs (disch := omega) only [go_sem, e1, e3, e4, e6]; rfl))
    · simp -implicitDefEqProofs (disch := omega) only [go_sem, e1, e3, e4, e6, hmi]; omega
  · have d1 : decide ((c : Int) = 256) = false := decide_eq_false (by omega)
    have gc : (c : Int) < 256 := by omega
    have d2 : decide (F c = F from_) = true := decide_eq_true hsame
    rw [if_neg (by simp [hne, hsame])] at hgo
    repeat (first | refine ToO_step (fun Q hq => by (simp -implicitDefEqProofs (disch := omega) only [go_sem, e1, e3, e4, e6, d1, gc, gf, intsV, d2]; exact hq)) ?_ | refine ToO_guard (by (simp -implicitDefEqProofs only [go_sem, e1, e3, e4, e6, d1, gc, gf, intsV, d2]; first | done | fail)) (fun Q hq => by (simp -implicitDefEqProofs (disch := omega) only [go_sem, e1, e3, e4, e6, d1, gc, gf, intsV, d2]; exact hq)) ?_ | refine ToO_skip (.inl (by (simp -implicitDefEqProofs only [go_sem, e1, e3, e4, e6, d1, gc, gf, intsV, d2]; first | done | fail))) ?_ | refine ToO_skip (.inr (by (simp -implicitDefEqProofs only [go_sem, e1, e3, e4, e6, d1, gc, gf, intsV, d2]; first | done | fail))) ?_)
    refine ToO_nil ?_
    simp -implicitDefEqProofs (disch := omega) only [go_sem, e1, e3, e4, e6]
    refine hQ' _ _ fun w1 hs => ⟨_, hs, ⟨c + 1, from_, s, by omega, by omega, by omega, hgo, ?_, ?_, ?_, ?_, rfl⟩, ?_⟩
    · (first | (simp -implicitDefEqProofs (disch := omega) only [go_sem, e1, e3, e4, e6]; done) | (simp -implicitDefEqProofs (disch := omega) only [go_sem, e1, e3, e4, e6]; rfl))
    · (first | (simp -implicitDefEqProofs (disch := omega) only [go_sem, e1, e3, e4, e6]; done) | (simp -implicitDefEqProofs (disch := omega) only [go_sem, e1, e3, e4, e6]; rfl))
    · (first | (simp -implicitDefEqProofs (disch := omega) only [go_sem, e1, e3, e4, e6]; done) | (simp -implicitDefEqProofs (disch := omega) only [go_sem, e1, e3, e4, e6]; rfl))
    · (first | (simp -implicitDefEqProofs (disch := omega) only [go_sem, e1, e3, e4, e6]; done) | (simp -implicitDefEqProofs (disch := omega) only [go_sem, e1, e3, e4, e6]; rfl))
    · simp -implicitDefEqProofs (disch := omega) only [go_sem, e1, e3, e4, e6, hmi]; omega
end Go.Proofs.Ytldidoaagijnhaa
