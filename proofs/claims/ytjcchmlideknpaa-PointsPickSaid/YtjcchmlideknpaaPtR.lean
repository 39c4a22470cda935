/- points' laws: the walks: starts, tokens and texts of a case. -/
import Derived.Test.YtjcchmlideknpaaPtP
import Derived.Test.YtjcchmlideknpaaPtQ
namespace Go.Proofs.Ytjcchmlideknpaa
set_option linter.unusedSimpArgs false
set_option linter.unusedVariables false
open H
theorem CaseAt.keep {w w' : World} {st : List Pt.St} {t ns : List UInt8} {ks : List Int} {sp : Int} {a1 a2 a3 : Option Addr} (h : CaseAt w st t ns ks sp a1 a2 a3) (hx : Ext [] w w') : CaseAt w' st t ns ks sp a1 a2 a3 := ⟨h.rS.keep hx, h.rN.keep hx, h.rK.keep hx, h.inS, h.inK, h.lS, h.lT, h.lN, h.lK, h.inSp⟩
theorem keep_at {w w' : World} {ad : Addr} {v : Value} (hx : Ext [] w w') (h : w.cell? ad = some v) : w'.cell? ad = some v := by
  rw [← h]; exact cell_of_block (hx.block _ (cell_lt h) (by simp))
theorem rstart_at {w : World} {a : Option Addr} {l : List Pt.St} (hr : Rd w a l.length 2 (ofL Pt.stC Pt.st0 l)) (i : Nat) (hi : i < l.length) : ∃ b o, a = some ⟨b, o, none⟩ ∧ b < w.heap.size ∧ w.cell? ⟨b, o + i * 2, none⟩ = some (.int .i64 (l.getD i Pt.st0).1) ∧ w.cell? ⟨b, o + i * 2 + 1, none⟩ = some (.int .i64 (l.getD i Pt.st0).2) := by
  obtain ⟨b, o, e, hb, _, h0, h1⟩ := st_at hr i hi
  exact ⟨b, o, e, hb, h0, h1⟩
theorem sts_take {l : List Pt.St} {i : Nat} (h : i < l.length) : (l.take (i + 1)).flatMap Pt.stC = (l.take i).flatMap Pt.stC ++ [.int .i64 (l.getD i Pt.st0).1, .int .i64 (l.getD i Pt.st0).2] := by
  rw [List.take_add_one, List.getElem?_eq_getElem h, Option.toList_some, List.flatMap_append, List.getD_eq_getElem?_getD, List.getElem?_eq_getElem h]; simp [Pt.stC]
theorem st_one (x y : Int) : ∀ u ∈ [Value.int .i64 x, .int .i64 y], u.oneCell' = true := by
  intro u hu
  simp only [List.mem_cons, List.not_mem_nil, or_false] at hu
  rcases hu with rfl | rfl <;> rfl
set_option maxRecDepth 20000 in
set_option maxHeartbeats 2000000 in
theorem law_given (l : List Pt.St) (a : Option Addr) (c : Nat) (hl : l.length ≤ 1000000) (w : World) (hr : Rd w a l.length 2 (ofL Pt.stC Pt.st0 l)) :
    Does Try.prog 18 #[.slice a l.length c] w fun v w' => ∃ a' c', v = .slice a' l.length c' ∧ Ext [] w w' ∧ Rd w' a' l.length 2 (ofL Pt.stC Pt.st0 l) := by
  refine does (args := [.slice a l.length c]) Try.func18 rfl (by kernel_rfl) (by kernel_rfl) rfl ent_18 (Sat.start w []) ?_; intro QV hQ
  simp -implicitDefEqProofs (disch := omega) only [go_sem]
  refine RLoop_from (fun f h => ∃ (i : Nat) (a' : Option Addr) (c' : Nat), i ≤ l.length ∧ i ≤ c' ∧ f 0 = .slice a l.length c ∧ f 3 = .slice a' i c' ∧ f 4 = .int .i64 (i : Int) ∧ h = [Own 57 2 (.slice a' i c') i ((l.take i).flatMap Pt.stC), .anchor w []]) (fun f _ => (l.length - ival (f 4)).toNat) ?_ ?_
  · exact fun w1 hs => ⟨_, hs.own_nil 57 2, 0, none, 0, by omega, by omega, by (first | (simp -implicitDefEqProofs (disch := omega) only [go_sem]; done) | (simp -implicitDefEqProofs (disch := omega) only [go_sem]; rfl)), by (first | (simp -implicitDefEqProofs (disch := omega) only [go_sem]; done) | (simp -implicitDefEqProofs (disch := omega) only [go_sem]; rfl)), by (first | (simp -implicitDefEqProofs (disch := omega) only [go_sem]; done) | (simp -implicitDefEqProofs (disch := omega) only [go_sem]; rfl)), rfl⟩
  rintro f h ⟨i, a', c', hi, hc', e0, e3, e4, rfl⟩ Q' hQ'
  by_cases hil : i < l.length
  · have g1 : (i : Int) < (l.length : Int) := by omega
    have hrow := sts_take hil
    obtain ⟨b, o, rfl, hb, hc0, hc1⟩ := rstart_at hr i hil
    generalize l.getD i Pt.st0 = x at *
    simp -implicitDefEqProofs (disch := omega) only [go_sem, e0, e3, e4, g1, decide_true]
    refine RDraw_seg (by kernel_rfl) (by kernel_rfl) 15 rfl ?_
    refine RS_cutR [0, 1, 2, 3, 4, 5, 6, 7, 8, 9, 10, 11] [12, 13, 14] (by decide +kernel) ?_
    refine RS_det (by kernel_rfl) ?_
    repeat (first | refine ToO_step (fun Q hq => by (simp -implicitDefEqProofs (disch := omega) only [go_sem, e0, e3, e4, g1, hc0, hc1]; exact hq)) ?_ | refine ToO_guard (by (simp -implicitDefEqProofs only [go_sem, e0, e3, e4, g1, hc0, hc1]; first | done | fail)) (fun Q hq => by (simp -implicitDefEqProofs (disch := omega) only [go_sem, e0, e3, e4, g1, hc0, hc1]; exact hq)) ?_ | refine ToO_skip (.inl (by (simp -implicitDefEqProofs only [go_sem, e0, e3, e4, g1, hc0, hc1]; first | done | fail))) ?_ | refine ToO_skip (.inr (by (simp -implicitDefEqProofs only [go_sem, e0, e3, e4, g1, hc0, hc1]; first | done | fail))) ?_)
    refine ToO_nil ?_
    refine RS_text (by kernel_rfl) ?_
    simp -implicitDefEqProofs (disch := omega) only [go_sem, e0, e3, e4]
    refine RRun_build1z (cs := [.int .i64 x.1, .int .i64 x.2]) starts_sl rfl (by omega) fun gn hgn => ?_
    simp -implicitDefEqProofs (disch := omega) only [go_sem, e0, e3, e4]
    refine RRun_append_cells starts_sl (fun _ hs => hs.2.2.2) rfl (st_one x.1 x.2) (by omega) (by simp only [maxLen]; omega) fun a'' c'' hc'' => ?_
    simp -implicitDefEqProofs (disch := omega) only [go_sem, e0, e3, e4]
    refine hQ' _ _ fun w1 hs => ⟨_, hs, ⟨i + 1, a'', c'', by omega, hc'', ?_, ?_, ?_, by rw [hrow]⟩, ?_⟩
    · (first | (simp -implicitDefEqProofs (disch := omega) only [go_sem, e0, e3, e4]; done) | (simp -implicitDefEqProofs (disch := omega) only [go_sem, e0, e3, e4]; rfl))
    · (first | (simp -implicitDefEqProofs (disch := omega) only [go_sem, e0, e3, e4]; done) | (simp -implicitDefEqProofs (disch := omega) only [go_sem, e0, e3, e4]; rfl))
    · (first | (simp -implicitDefEqProofs (disch := omega) only [go_sem, e0, e3, e4]; done) | (simp -implicitDefEqProofs (disch := omega) only [go_sem, e0, e3, e4]; rfl))
    · simp -implicitDefEqProofs (disch := omega) only [go_sem, e0, e3, e4]; omega
  · have g1 : ¬ (i : Int) < (l.length : Int) := by omega
    obtain rfl : i = l.length := by omega
    rw [List.take_length]
    simp -implicitDefEqProofs (disch := omega) only [go_sem, e0, e3, e4, g1, decide_false]
    refine hQ _ _ fun w' hs => ⟨a', c', rfl, hs.mem (.anchor w []) (by simp), ?_⟩
    have ho : w'.ownsRow 0 57 2 (.slice a' l.length c') l.length (l.flatMap Pt.stC) := hs.1
    rw [← flat_ofL Pt.stC Pt.st0 l] at ho
    exact rd_own ho fun i hi => rfl
set_option maxRecDepth 20000 in
set_option maxHeartbeats 2000000 in
theorem words_again (m : Int) (hm : m ≤ 2000000) (w : World) : Does Try.prog 34 #[str [122], .int .i64 m] w fun v w' => v = str (List.replicate m.toNat 122) ∧ Ext [] w w' := by
  refine does (args := [str [122], .int .i64 m]) Try.func34 rfl (by kernel_rfl) (by kernel_rfl) rfl ent_34 (Sat.start w []) ?_; intro QV hQ
  simp -implicitDefEqProofs (disch := omega) only [go_sem]
  refine RLoop_from (fun f h => ∃ (i : Nat) (a' : Option Addr) (c' : Nat), (i : Int) ≤ max 0 m ∧ i ≤ c' ∧ f 0 = str [122] ∧ f 1 = .int .i64 m ∧ f 5 = .slice a' i c' ∧ f 6 = .int .i64 (i : Int) ∧ h = [Own 5 1 (.slice a' i c') i ((List.replicate i (122 : UInt8)).map byte), .anchor w []]) (fun f _ => (m - ival (f 6)).toNat) ?_ ?_
  · exact fun w1 hs => ⟨_, hs.own_nil 5 1, 0, none, 0, by omega, by omega, by (first | (simp -implicitDefEqProofs (disch := omega) only [go_sem]; done) | (simp -implicitDefEqProofs (disch := omega) only [go_sem]; rfl)), by (first | (simp -implicitDefEqProofs (disch := omega) only [go_sem]; done) | (simp -implicitDefEqProofs (disch := omega) only [go_sem]; rfl)), by (first | (simp -implicitDefEqProofs (disch := omega) only [go_sem]; done) | (simp -implicitDefEqProofs (disch := omega) only [go_sem]; rfl)), by (first | (simp -implicitDefEqProofs (disch := omega) only [go_sem]; done) | (simp -implicitDefEqProofs (disch := omega) only [go_sem]; rfl)), rfl⟩
  rintro f h ⟨i, a', c', hi, hc', e0, e1, e5, e6, rfl⟩ Q' hQ'
  by_cases hil : (i : Int) < m
  · simp -implicitDefEqProofs (disch := omega) only [go_sem, e0, e1, e5, e6, hil, decide_true]
    refine RRun_append_str bytes_sl Try.underlying9 (by kernel_rfl) (fun _ hs => hs) (by simp only [List.length_cons, List.length_nil]; omega) fun a'' c'' hc'' => ?_
    have hrep : List.replicate i (122 : UInt8) ++ [122] = List.replicate (i + 1) 122 := by rw [List.replicate_succ']
    rw [hrep]
    simp -implicitDefEqProofs (disch := omega) only [go_sem, e0, e1, e5, e6]
    refine hQ' _ _ fun w1 hs => ⟨_, hs, ⟨i + 1, a'', c'', by omega, hc'', ?_, ?_, ?_, ?_, rfl⟩, ?_⟩
    · (first | (simp -implicitDefEqProofs (disch := omega) only [go_sem, e0, e1, e5, e6]; done) | (simp -implicitDefEqProofs (disch := omega) only [go_sem, e0, e1, e5, e6]; rfl))
    · (first | (simp -implicitDefEqProofs (disch := omega) only [go_sem, e0, e1, e5, e6]; done) | (simp -implicitDefEqProofs (disch := omega) only [go_sem, e0, e1, e5, e6]; rfl))
    · (first | (simp -implicitDefEqProofs (disch := omega) only [go_sem, e0, e1, e5, e6]; done) | (simp -implicitDefEqProofs (disch := omega) only [go_sem, e0, e1, e5, e6]; rfl))
    · (first | (simp -implicitDefEqProofs (disch := omega) only [go_sem, e0, e1, e5, e6]; done) | (simp -implicitDefEqProofs (disch := omega) only [go_sem, e0, e1, e5, e6]; rfl))
    · simp -implicitDefEqProofs (disch := omega) only [go_sem, e0, e1, e5, e6]; omega
  · have hmi : m.toNat = i := by omega
    simp -implicitDefEqProofs (disch := omega) only [go_sem, e0, e1, e5, e6, hil, decide_false]
    refine RRun_str_own bytes_t Try.underlying9 ?_
    simp -implicitDefEqProofs (disch := omega) only [go_sem, e0, e1, e5, e6]
    exact hQ _ _ fun w' hs => ⟨by rw [hmi], hs.mem (.anchor w []) (by simp)⟩
/-- A case's text, cut or made longer to the tokens' size, unless it is odd. -/
def tokT (odd : Bool) (t : List UInt8) (n : Int) : List UInt8 := if odd then t else (t.take n.toNat) ++ List.replicate (n - ((t.take n.toNat).length : Int)).toNat 122
theorem size_in (ns : List UInt8) (ks : List Int) (hl : ns.length ≤ 300) : 0 ≤ Tok.size (Tok.made 0 ns ks) ∧ Tok.size (Tok.made 0 ns ks) ≤ 4096 * 301 := by
  have hch := Tok.made_chain 0 ns ks
  have hlen := Tok.made_len 0 ns ks
  generalize Tok.made 0 ns ks = l at *
  unfold Tok.size
  split
  · omega
  · rename_i h0
    have hp : 0 < l.length := List.length_pos_iff.2 h0
    obtain ⟨h1, h2, h3, h4, _⟩ := Tok.chain_at l 0 hch (l.length - 1) (by omega)
    omega
set_option maxRecDepth 20000 in
set_option maxHeartbeats 2000000 in
theorem law_tokened (st : List Pt.St) (t ns : List UInt8) (ks : List Int) (odd : Bool) (spc : Int) (a1 a2 a3 : Option Addr) (c1 c2 c3 : Nat) (hT : t.length ≤ 40000) (hN : ns.length ≤ 300) (w : World) (hc : CaseAt w st t ns ks spc a1 a2 a3) :
    Does Try.prog 16 #[.agg #[.slice a1 st.length c1, str t, .slice a2 ns.length c2, .slice a3 ks.length c3, .bool odd, .int .i64 spc]] w fun v w' => ∃ al cl, v = .tuple #[.slice al (Tok.made 0 ns ks).length cl, str (tokT odd t (Tok.size (Tok.made 0 ns ks)))] ∧ Ext [] w w' ∧ Rd w' al (Tok.made 0 ns ks).length 3 (ofL Tok.tkC Tok.tk0 (Tok.made 0 ns ks)) := by
  refine does (args := [.agg #[.slice a1 st.length c1, str t, .slice a2 ns.length c2, .slice a3 ks.length c3, .bool odd, .int .i64 spc]]) Try.func16 rfl (by kernel_rfl) (by kernel_rfl) rfl ent_16 (Sat.start w []) ?_; intro QV hQ
  simp -implicitDefEqProofs (disch := omega) only [go_sem]
  refine RNew_intro fun g1 hg1 => ?_
  simp -implicitDefEqProofs (disch := omega) only [go_sem]
  refine RCall_newS (fun w1 hs => rtok_made ns ks a2 a3 c2 c3 (by omega) hc.lK hc.inK w1 (hc.rN.keep (hs.anchor (by simp))) (hc.rK.keep (hs.anchor (by simp)))) ?_
  rintro _ rs ⟨al, cl, rfl, hcl, rfl⟩ _
  have hch := Tok.made_chain 0 ns ks
  have hlen := Tok.made_len 0 ns ks
  have hsz := size_in ns ks hN
  generalize Tok.made 0 ns ks = l at *
  have hll : l.length ≤ 2147483648 := by omega
  have hsm : Small l := Tok.chain_small hch hll
  have hown : ∀ w1 h, Sat w1 h → Own 56 3 (.slice al l.length cl) l.length (l.flatMap Tok.tkC) ∈ h → Rd w1 al l.length 3 (ofL Tok.tkC Tok.tk0 l) := fun w1 h hs hm => toks_rd (c := cl) (hs.mem _ hm)
  simp -implicitDefEqProofs (disch := omega) only [go_sem]
  refine RCall_eqS (fun w1 hs => rtok_size l al cl hsm hll w1 (hown w1 _ hs (by simp))) ?_
  obtain ⟨n, hn⟩ : ∃ n : Nat, Tok.size l = (n : Int) := ⟨(Tok.size l).toNat, by omega⟩
  rw [hn] at hQ hsz ⊢
  cases odd with
  | true =>
    have hT : tokT true t (n : Int) = t := rfl
    rw [hT] at hQ
    simp -implicitDefEqProofs (disch := omega) only [go_sem]
    exact hQ _ _ fun w' hs => ⟨al, cl, rfl, hs.anchor (by simp), hown w' _ hs (by simp)⟩
  | false =>
    have hT : tokT false t (n : Int) = t.take n ++ List.replicate ((n : Int) - ((t.take n).length : Int)).toNat 122 := rfl
    rw [hT] at hQ
    simp -implicitDefEqProofs (disch := omega) only [go_sem]
    refine RC_join (fun f h => f 4 = .slice al l.length cl ∧ f 5 = .int .i64 (n : Int) ∧ f 6 = str (t.take n) ∧ h = [Own 56 3 (.slice al l.length cl) l.length (l.flatMap Tok.tkC), .cells g1 34 #[.slice a1 st.length c1, str t, .slice a2 ns.length c2, .slice a3 ks.length c3, .bool false, .int .i64 spc], .anchor w []]) (fun J hJ hc => ?_) (fun J hJ hc => ?_) ?_
    · have h1 : (n : Int) < (t.length : Int) := of_decide_eq_true hc
      simp -implicitDefEqProofs (disch := omega) only [go_sem, Int.toNat_natCast]
      exact hJ _ _ ⟨by (first | (simp -implicitDefEqProofs (disch := omega) only [go_sem]; done) | (simp -implicitDefEqProofs (disch := omega) only [go_sem]; rfl)), by (first | (simp -implicitDefEqProofs (disch := omega) only [go_sem]; done) | (simp -implicitDefEqProofs (disch := omega) only [go_sem]; rfl)), by (first | (simp -implicitDefEqProofs (disch := omega) only [go_sem, Int.toNat_natCast]; done) | (simp -implicitDefEqProofs (disch := omega) only [go_sem, Int.toNat_natCast]; rfl)), rfl⟩
    · have h1 : ¬ (n : Int) < (t.length : Int) := of_decide_eq_false hc
      have h2 : t.take n = t := List.take_of_length_le (by omega)
      simp -implicitDefEqProofs (disch := omega) only [go_sem]
      exact hJ _ _ ⟨by (first | (simp -implicitDefEqProofs (disch := omega) only [go_sem]; done) | (simp -implicitDefEqProofs (disch := omega) only [go_sem]; rfl)), by (first | (simp -implicitDefEqProofs (disch := omega) only [go_sem]; done) | (simp -implicitDefEqProofs (disch := omega) only [go_sem]; rfl)), by rw [h2]; (first | (simp -implicitDefEqProofs (disch := omega) only [go_sem]; done) | (simp -implicitDefEqProofs (disch := omega) only [go_sem]; rfl)), rfl⟩
    rintro f h ⟨e4, e5, e6, rfl⟩
    have htl : (t.take n).length ≤ n := by rw [List.length_take]; omega
    generalize t.take n = t1 at *
    simp -implicitDefEqProofs (disch := omega) only [go_sem, e4, e5, e6]
    refine RCall_eq (words_again ((n : Int) - (t1.length : Int)) (by omega)) ?_
    have hrl : (List.replicate ((n : Int) - (t1.length : Int)).toNat (122 : UInt8)).length ≤ 2000000 := by rw [List.length_replicate]; omega
    generalize List.replicate ((n : Int) - (t1.length : Int)).toNat (122 : UInt8) = zz at *
    simp -implicitDefEqProofs (disch := omega) only [go_sem, e4, e5, e6]
    exact hQ _ _ fun w' hs => ⟨al, cl, rfl, hs.anchor (by simp), hown w' _ hs (by simp)⟩
end Go.Proofs.Ytjcchmlideknpaa
