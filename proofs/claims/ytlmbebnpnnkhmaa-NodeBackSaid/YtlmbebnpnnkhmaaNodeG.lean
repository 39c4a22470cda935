/- node: the walk: a node read. -/
import Derived.Test.YtlmbebnpnnkhmaaNodeF
import Derived.Test.YtlmbebnpnnkhmaaSegF
namespace Go.Proofs.Ytlmbebnpnnkhmaa
set_option linter.unusedSimpArgs false
set_option linter.unusedVariables false
open H
/-- A new node. -/
def NewNode (tk kd : TypeId) (v : Value) (rs : List Res) (n : Nd.N) : Prop := ∃ a1 c1 a2 c2, v = Nd.nV n a1 c1 a2 c2 ∧ n.toks.length ≤ c1 ∧ n.kids.length ≤ c2 ∧ rs = [Own tk 3 (.slice a1 n.toks.length c1) n.toks.length (n.toks.flatMap Tok.tkC), Own kd 3 (.slice a2 n.kids.length c2) n.kids.length (n.kids.flatMap Tok.tkC)]
theorem toks_sl : slT Try.prog 22 27 3 24 := slT_of (by kernel_rfl)
theorem kids_sl : slT Try.prog 33 63 3 24 := slT_of (by kernel_rfl)
/-- A row of tokens of one's own reads so. -/
theorem own_rd {w : World} {h : List Res} {t : TypeId} {a : Option Addr} {c : Nat} {r : List Tok.Tk} (hs : Sat w h) (hm : Own t 3 (.slice a r.length c) r.length (r.flatMap Tok.tkC) ∈ h) : Rd w a r.length 3 (ofL Tok.tkC Tok.tk0 r) := by
  have h' : w.ownsRow 0 t 3 (.slice a r.length c) r.length (r.flatMap Tok.tkC) := hs.mem _ hm
  rw [← flat_ofL Tok.tkC Tok.tk0 r] at h'
  exact rd_own h' fun i hi => rfl
theorem tkC_snoc (r : List Tok.Tk) (t : Tok.Tk) : (r ++ [t]).flatMap Tok.tkC = r.flatMap Tok.tkC ++ [.int .i64 t.1, .int .i64 t.2.1, .int .i64 t.2.2] := by simp [Tok.tkC]
theorem tkC_one' (t : Tok.Tk) : ∀ u ∈ [Value.int .i64 t.1, .int .i64 t.2.1, .int .i64 t.2.2], u.oneCell' = true := by
  intro u hu
  simp only [List.mem_cons, List.not_mem_nil, or_false] at hu
  rcases hu with rfl | rfl | rfl <;> rfl
theorem ints_cells {w : World} {h : List Res} {g : Nat} {t : TypeId} {l : List Int} (hs : Sat w h) (hm : Res.cells g t (List.toArray (Nd.iv l)) ∈ h) : Rd w (some ⟨g, 0, none⟩) l.length 1 (ofL (fun x => [.int .i64 x]) 0 l) := by
  refine rd_cells (hs.mem _ hm) 0 l.length 1 _ (hs.lt _ hm g rfl) (fun i _ => rfl) fun i j hi hj => ?_
  obtain rfl : j = 0 := by omega
  rw [List.getElem?_toArray]
  simp [Nd.iv, ofL, List.getElem?_eq_getElem hi]
theorem Sat.single {w : World} {h : List Res} {r : Res} (hs : Sat w h) (hm : r ∈ h) : Sat w [r] := ⟨hs.mem _ hm, fun k hk => hs.lt _ hm k hk, fun _ hq => absurd hq (by simp), trivial⟩
theorem Sat.sublist {w : World} {h' h : List Res} (hl : h'.Sublist h) : Sat w h → Sat w h' := by
  induction hl with
  | slnil => exact id
  | cons a _ ih => exact fun hs => ih hs.2.2.2
  | cons_cons a hl ih => exact fun hs => ⟨hs.1, hs.2.1, fun q hq k hk => hs.2.2.1 q (hl.subset hq) k hk, ih hs.2.2.2⟩
theorem Sat.drop34 {w : World} {a b c d : Res} {h : List Res} (hs : Sat w (a :: b :: c :: d :: h)) : Sat w ([a, b] ++ h) := Sat.sublist (.cons_cons _ (.cons_cons _ (.cons _ (.cons _ (List.Sublist.refl h))))) hs
theorem RCall_newS {P : Program} {k : FuncId} {args : Array Value} {d : Option Nat} {ops rest : List Oper} {s : List Kn} {f : Fr} {h : List Res} {Q : Exit → Fr → List Res → Prop} {Φ : Value → List Res → Prop}
    (c : ∀ w, Sat w h → Does P k args w fun v w' => ∃ rs, Sat w' (rs ++ [.anchor w []]) ∧ Φ v rs) (hk : ∀ v rs, Φ v rs → (∃ w, Sat w (rs ++ h)) → RL P ops rest s (put f d v) (rs ++ h) Q) : RCall P k args ⟨d, ops, rest, s⟩ f h Q :=
  RCall_any fun w hs => (c w hs).mono fun v w' ⟨rs, hr, hv⟩ => ⟨rs ++ h, hs.join hr, hk v rs hv ⟨w', hs.join hr⟩⟩
theorem cells_ne {h : List Res} {g g' : Nat} {t t' : TypeId} {cs cs' : Array Value} (hs : ∃ w, Sat w (.cells g t cs :: h)) (hm : .cells g' t' cs' ∈ h) : g' ≠ g := by
  obtain ⟨w, _, _, h3, _⟩ := hs
  exact fun e => h3 _ hm g rfl e.symm
namespace Nd
def toksTo (s : List UInt8) (i : Nat) : List Tk := (List.range i).map (tAt s)
def kidsTo (s : List UInt8) (i : Nat) : List Tk := (List.range i).map (kAt s)
theorem toksTo_len (s : List UInt8) (i : Nat) : (toksTo s i).length = i := by simp [toksTo]
theorem kidsTo_len (s : List UInt8) (i : Nat) : (kidsTo s i).length = i := by simp [kidsTo]
theorem toksTo_succ (s : List UInt8) (i : Nat) : toksTo s (i + 1) = toksTo s i ++ [tAt s i] := by unfold toksTo; rw [List.range_succ]; simp
theorem kidsTo_succ (s : List UInt8) (i : Nat) : kidsTo s (i + 1) = kidsTo s i ++ [kAt s i] := by unfold kidsTo; rw [List.range_succ]; simp
theorem get_t (s : List UInt8) (i : Nat) : getF s (2 + 7 * (i : Int)) [4, 2, 1] 3 = [(tAt s i).1, (tAt s i).2.1, (tAt s i).2.2 + 1] := by
  have e : ∀ x : Int, x - 1 + 1 = x := fun x => by omega
  simp [getF, offs, List.range_succ, tAt, e, Int.add_assoc]
theorem get_k (s : List UInt8) (i : Nat) : getF s (2 + 12 * (i : Int)) [4, 4, 4] 3 = [(kAt s i).1, (kAt s i).2.1, (kAt s i).2.2] := by
  simp [getF, offs, List.range_succ, kAt, Int.add_assoc]
theorem nm_bound (s : List UInt8) (a w : Int) : -1 ≤ nm s a w ∧ nm s a w < 9223372036854775808 := by
  unfold nm Vint.number
  repeat' split
  all_goals (first | omega | (simp only [] at *; omega))
theorem cnt_lt (s : List UInt8) : cnt s < 256 := (s.getD 1 0).toNat_lt
end Nd
set_option maxRecDepth 20000 in
set_option maxHeartbeats 4000000 in
theorem node_parse (s : List UInt8) (hsl : s.length ≤ 9223372036854775807) (w : World) : Does Try.prog 20 #[str s] w fun v w' => ∃ rs, Sat w' (rs ++ [.anchor w []]) ∧ ∃ v0, v = .tuple #[v0, .int .i64 (Nd.parse s).2] ∧ NewNode 27 63 v0 rs (Nd.parse s).1 := by
  refine does (args := [str s]) Try.func20 rfl (by kernel_rfl) (by kernel_rfl) rfl ent_20 (Sat.start w []) ?_; intro QV hQ
  simp -implicitDefEqProofs (disch := omega) only [go_sem]
  refine RNew_intro fun g1 hg1 => ?_
  simp only [below_cons, below_nil, under_anchor, and_true] at hg1
  have hfail : ∀ e : Int, ∀ w' h, Sat w' h → Res.anchor w [] ∈ h → ∃ rs, Sat w' (rs ++ [.anchor w []]) ∧ ∃ v0, Value.tuple #[.agg #[.bool false, .slice none 0 0, .slice none 0 0], .int .i64 e] = .tuple #[v0, .int .i64 e] ∧ NewNode 27 63 v0 rs Nd.n0 := fun e w' h hs hm => by
    have h1 : Sat w' [.anchor w []] := Sat.single hs hm
    exact ⟨_, (h1.own_nil 63 3).own_nil 27 3, _, rfl, none, 0, none, 0, rfl, Nat.le_refl _, Nat.le_refl _, rfl⟩
  by_cases hlen : s.length = 252
  rotate_left
  · have hlen' : ¬ (s.length : Int) = 252 := by omega
    have hp : Nd.parse s = (Nd.n0, 2) := by unfold Nd.parse; rw [if_pos hlen]
    rw [hp] at hQ
    simp -implicitDefEqProofs (disch := omega) only [go_sem, hlen', decide_false]
    exact hQ _ _ fun w' hs => hfail 2 w' _ hs (by simp)
  have hlen' : (s.length : Int) = 252 := by omega
  simp -implicitDefEqProofs (disch := omega) only [go_sem, hlen', decide_true]
  refine RNew_intro fun g2 hg2 => ?_
  have ng : g1 ≠ g2 := Nat.ne_of_lt hg2.1
  simp -implicitDefEqProofs (disch := omega) only [go_sem]
  have hcl := Nd.cnt_lt s
  have hcd : (s.getD 1 0).toNat = Nd.cnt s := rfl
  rw [hcd]
  have hpv : ∀ b e, Nd.build (Nd.unp s) = (b, e) → Nd.parse s = if e = 0 ∧ b = s then (Nd.unp s, 0) else (Nd.n0, 4) := fun b e h => by
    unfold Nd.parse
    rw [if_neg (by omega), h]
    by_cases hx : e = 0 ∧ b = s
    · rw [if_pos hx, if_pos (by rw [hx.1, hx.2])]
    · rw [if_neg hx, if_neg (fun h => hx (by injection h with h1 h2; exact ⟨h2, h1⟩))]
  generalize hbe : Nd.build (Nd.unp s) = be at *
  obtain ⟨bb, be⟩ := be
  have hpv := hpv bb be rfl
  cases hlf : Nd.isLeaf s with
  | true =>
    have hlf' : decide (s.getD 0 0 = 1) = true := hlf
    have hun : Nd.unp s = ⟨true, Nd.toksTo s (Nd.cnt s), []⟩ := by unfold Nd.unp; rw [hlf]; rfl
    rw [hlf']
    refine RLoop_from (fun f h => ∃ (i : Nat) (a' : Option Addr) (c' : Nat), i ≤ Nd.cnt s ∧ i ≤ c' ∧ f 0 = str s ∧ f 2 = .pointer (some ⟨g1, 0, none⟩) ∧ f 4 = .pointer (some ⟨g2, 0, none⟩) ∧ f 20 = .int .i64 (Nd.cnt s : Int) ∧ f 21 = .int .i64 (i : Int) ∧
      h = [Own 27 3 (.slice a' i c') i ((Nd.toksTo s i).flatMap Tok.tkC), Own 63 3 (.slice none 0 0) 0 [], .cells g2 35 #[.bool true, .slice a' i c', .slice none 0 0], .cells g1 35 #[.bool false, .slice none 0 0, .slice none 0 0], .anchor w []]) (fun f _ => (Nd.cnt s - ival (f 21)).toNat) ?_ ?_
    · exact fun w1 hs => ⟨_, (hs.own_nil 63 3).own_nil 27 3, 0, none, 0, by omega, by omega, by (first | (simp -implicitDefEqProofs (disch := omega) only [go_sem]; done) | (simp -implicitDefEqProofs (disch := omega) only [go_sem]; rfl)), by (first | (simp -implicitDefEqProofs (disch := omega) only [go_sem]; done) | (simp -implicitDefEqProofs (disch := omega) only [go_sem]; rfl)), by (first | (simp -implicitDefEqProofs (disch := omega) only [go_sem]; done) | (simp -implicitDefEqProofs (disch := omega) only [go_sem]; rfl)), by (first | (simp -implicitDefEqProofs (disch := omega) only [go_sem]; done) | (simp -implicitDefEqProofs (disch := omega) only [go_sem]; rfl)), by (first | (simp -implicitDefEqProofs (disch := omega) only [go_sem]; done) | (simp -implicitDefEqProofs (disch := omega) only [go_sem]; rfl)), rfl⟩
    rintro f h ⟨i, a', c', hi, hc', e0, e2, e4, e20, e21, rfl⟩ Q' hQ'
    by_cases hil : i < Nd.cnt s
    · have g1' : (i : Int) < (Nd.cnt s : Int) := by omega
      have hrow := Nd.toksTo_succ s i
      have hget := Nd.get_t s i
      simp -implicitDefEqProofs (disch := omega) only [go_sem, e0, e2, e4, e20, e21, g1', decide_true]
      refine RRun_buildz [.int .i64 4, .int .i64 2, .int .i64 1] (Nd.iv [4, 2, 1]) gints_sl rfl rfl (by decide) (fun v hv => by
        simp only [List.mem_cons, List.not_mem_nil, or_false] at hv
        rcases hv with rfl | rfl | rfl <;> rfl) rfl (by decide) fun gw hgw => ?_
      have ngw : g2 ≠ gw := by obtain ⟨_, _, h, _⟩ := hgw; exact Nat.ne_of_lt h
      simp -implicitDefEqProofs (disch := omega) only [go_sem, e0, e2, e4, e20, e21]
      refine RCall_newS (fun w1 hs => node_get s hsl (2 + 7 * (i : Int)) [4, 2, 1] (some ⟨gw, 0, none⟩) 3 (by omega) (by decide) (by decide) (by decide) w1 (ints_cells (t := 3) hs List.mem_cons_self)) ?_
      rintro _ _ ⟨gx, cx, sp, rfl, rfl⟩ hwx
      have nx : g2 ≠ gx := cells_ne hwx (by repeat (first | exact List.mem_cons_self | apply List.mem_cons_of_mem))
      have e3 : ([4, 2, 1] : List Int).length = 3 := rfl
      rw [e3, hget]
      have hb3 : -2 ≤ (Nd.tAt s i).2.2 ∧ (Nd.tAt s i).2.2 < 9223372036854775807 := by
        have := Nd.nm_bound s (2 + 7 * (i : Int) + 4 + 2) 1
        unfold Nd.tAt; simp only []; omega
      generalize hx : Nd.tAt s i = x at *
      have hs1 : x.2.2 + 1 - 1 = x.2.2 := by omega
      have hiv : Nd.iv [x.1, x.2.1, x.2.2 + 1] ++ sp = .int .i64 x.1 :: .int .i64 x.2.1 :: .int .i64 (x.2.2 + 1) :: sp := rfl
      rw [hiv]
      simp -implicitDefEqProofs (disch := omega) only [go_sem, e0, e2, e4, e20, e21, Nd.getF_len]
      refine RDraw_seg (by kernel_rfl) (by kernel_rfl) 17 rfl ?_
      refine RS_cutR [0, 2, 3, 4, 5, 6, 7, 8, 9, 10, 11, 12, 15] [1, 13, 14, 16] (by decide +kernel) ?_
      refine RS_det (by kernel_rfl) ?_
      repeat (first | refine ToO_step (fun Q hq => by (simp -implicitDefEqProofs (disch := omega) only [go_sem, e0, e2, e4, e20, e21, hs1]; exact hq)) ?_ | refine ToO_guard (by (simp -implicitDefEqProofs only [go_sem, e0, e2, e4, e20, e21, hs1]; first | done | fail)) (fun Q hq => by (simp -implicitDefEqProofs (disch := omega) only [go_sem, e0, e2, e4, e20, e21, hs1]; exact hq)) ?_ | refine ToO_skip (.inl (by (simp -implicitDefEqProofs only [go_sem, e0, e2, e4, e20, e21, hs1]; first | done | fail))) ?_ | refine ToO_skip (.inr (by (simp -implicitDefEqProofs only [go_sem, e0, e2, e4, e20, e21, hs1]; first | done | fail))) ?_)
      refine ToO_nil ?_
      refine RS_first [1, 13] (by kernel_rfl) ⟨?_, ?_, trivial⟩
      · simp -implicitDefEqProofs (disch := omega) only [go_sem, e0, e2, e4, e20, e21]
        refine RS_text (L := [13, 14, 16]) (by kernel_rfl) ?_
        simp -implicitDefEqProofs (disch := omega) only [go_sem, e0, e2, e4, e20, e21]
        refine RRun_build1z (cs := [.int .i64 x.1, .int .i64 x.2.1, .int .i64 x.2.2]) toks_sl rfl (by omega) fun gn hgn => ?_
        have ngn : g2 ≠ gn := by obtain ⟨_, _, _, _, h, _⟩ := hgn; exact Nat.ne_of_lt h
        simp -implicitDefEqProofs (disch := omega) only [go_sem, e0, e2, e4, e20, e21]
        refine RRun_append_cells toks_sl (fun _ hs => hs.2.2.2.2.2.2.2.2.2) rfl (tkC_one' x) (by omega) (by simp only [maxLen]; omega) fun a'' c'' hc'' => ?_
        simp -implicitDefEqProofs (disch := omega) only [go_sem, e0, e2, e4, e20, e21]
        refine hQ' _ _ fun w1 hs => ⟨_, hs, ⟨i + 1, a'', c'', by omega, hc'', ?_, ?_, ?_, ?_, ?_, by rw [hrow, tkC_snoc]⟩, ?_⟩
        · (first | (simp -implicitDefEqProofs (disch := omega) only [go_sem, e0, e2, e4, e20, e21]; done) | (simp -implicitDefEqProofs (disch := omega) only [go_sem, e0, e2, e4, e20, e21]; rfl))
        · (first | (simp -implicitDefEqProofs (disch := omega) only [go_sem, e0, e2, e4, e20, e21]; done) | (simp -implicitDefEqProofs (disch := omega) only [go_sem, e0, e2, e4, e20, e21]; rfl))
        · (first | (simp -implicitDefEqProofs (disch := omega) only [go_sem, e0, e2, e4, e20, e21]; done) | (simp -implicitDefEqProofs (disch := omega) only [go_sem, e0, e2, e4, e20, e21]; rfl))
        · (first | (simp -implicitDefEqProofs (disch := omega) only [go_sem, e0, e2, e4, e20, e21]; done) | (simp -implicitDefEqProofs (disch := omega) only [go_sem, e0, e2, e4, e20, e21]; rfl))
        · (first | (simp -implicitDefEqProofs (disch := omega) only [go_sem, e0, e2, e4, e20, e21]; done) | (simp -implicitDefEqProofs (disch := omega) only [go_sem, e0, e2, e4, e20, e21]; rfl))
        · simp -implicitDefEqProofs (disch := omega) only [go_sem, e0, e2, e4, e20, e21]; omega
      · simp -implicitDefEqProofs (disch := omega) only [go_sem, e0, e2, e4, e20, e21]
        refine RRun_build1z (cs := [.int .i64 x.1, .int .i64 x.2.1, .int .i64 x.2.2]) toks_sl rfl (by omega) fun gn hgn => ?_
        have ngn : g2 ≠ gn := by obtain ⟨_, _, _, _, h, _⟩ := hgn; exact Nat.ne_of_lt h
        simp -implicitDefEqProofs (disch := omega) only [go_sem, e0, e2, e4, e20, e21]
        refine RS_text (L := [1, 14, 16]) (by kernel_rfl) ?_
        simp -implicitDefEqProofs (disch := omega) only [go_sem, e0, e2, e4, e20, e21]
        refine RRun_append_cells toks_sl (fun _ hs => hs.2.2.2.2.2.2.2.2.2) rfl (tkC_one' x) (by omega) (by simp only [maxLen]; omega) fun a'' c'' hc'' => ?_
        simp -implicitDefEqProofs (disch := omega) only [go_sem, e0, e2, e4, e20, e21]
        refine hQ' _ _ fun w1 hs => ⟨_, hs, ⟨i + 1, a'', c'', by omega, hc'', ?_, ?_, ?_, ?_, ?_, by rw [hrow, tkC_snoc]⟩, ?_⟩
        · (first | (simp -implicitDefEqProofs (disch := omega) only [go_sem, e0, e2, e4, e20, e21]; done) | (simp -implicitDefEqProofs (disch := omega) only [go_sem, e0, e2, e4, e20, e21]; rfl))
        · (first | (simp -implicitDefEqProofs (disch := omega) only [go_sem, e0, e2, e4, e20, e21]; done) | (simp -implicitDefEqProofs (disch := omega) only [go_sem, e0, e2, e4, e20, e21]; rfl))
        · (first | (simp -implicitDefEqProofs (disch := omega) only [go_sem, e0, e2, e4, e20, e21]; done) | (simp -implicitDefEqProofs (disch := omega) only [go_sem, e0, e2, e4, e20, e21]; rfl))
        · (first | (simp -implicitDefEqProofs (disch := omega) only [go_sem, e0, e2, e4, e20, e21]; done) | (simp -implicitDefEqProofs (disch := omega) only [go_sem, e0, e2, e4, e20, e21]; rfl))
        · (first | (simp -implicitDefEqProofs (disch := omega) only [go_sem, e0, e2, e4, e20, e21]; done) | (simp -implicitDefEqProofs (disch := omega) only [go_sem, e0, e2, e4, e20, e21]; rfl))
        · simp -implicitDefEqProofs (disch := omega) only [go_sem, e0, e2, e4, e20, e21]; omega
    have g1' : ¬ (i : Int) < (Nd.cnt s : Int) := by omega
    obtain rfl : i = Nd.cnt s := by omega
    have hl2 := Nd.toksTo_len s (Nd.cnt s)
    rw [hun] at hbe
    rw [hun] at hpv
    generalize Nd.toksTo s (Nd.cnt s) = r at *
    simp -implicitDefEqProofs (disch := omega) only [go_sem, e0, e2, e4, e20, e21, g1', decide_false]
    rw [← hl2] at hc' hcl ⊢
    refine RCall_eqS (u := .tuple #[str bb, .int .i64 be]) (fun w1 hs => ?_) ?_
    · have := node_build ⟨true, r, []⟩ a' none c' 0 (show r.length ≤ 2147483648 by omega) (by simp) w1 ⟨own_rd hs List.mem_cons_self, Rd.nil _ _ _ _⟩
      rw [hbe] at this
      exact this
    by_cases k1 : be = 0
    · by_cases k2 : bb = s
      · rw [if_pos ⟨k1, k2⟩] at hpv
        rw [hpv] at hQ
        simp -implicitDefEqProofs (disch := omega) only [go_sem, e0, e2, e4, e20, e21, k1, k2, decide_true]
        exact hQ _ _ fun w' hs => ⟨_, Sat.drop34 hs, _, rfl, a', c', none, 0, rfl, hc', Nat.le_refl _, rfl⟩
      · rw [if_neg (fun h => k2 h.2)] at hpv
        rw [hpv] at hQ
        simp -implicitDefEqProofs (disch := omega) only [go_sem, e0, e2, e4, e20, e21, k1, k2, decide_true, decide_false]
        exact hQ _ _ fun w' hs => hfail 4 w' _ hs (by simp)
    · rw [if_neg (fun h => k1 h.1)] at hpv
      rw [hpv] at hQ
      simp -implicitDefEqProofs (disch := omega) only [go_sem, e0, e2, e4, e20, e21, k1, decide_false]
      exact hQ _ _ fun w' hs => hfail 4 w' _ hs (by simp)
  | false =>
    have hlf' : decide (s.getD 0 0 = 1) = false := hlf
    have hun : Nd.unp s = ⟨false, [], Nd.kidsTo s (Nd.cnt s)⟩ := by unfold Nd.unp; rw [hlf]; rfl
    rw [hlf']
    refine RLoop_from (fun f h => ∃ (i : Nat) (a' : Option Addr) (c' : Nat), i ≤ Nd.cnt s ∧ i ≤ c' ∧ f 0 = str s ∧ f 2 = .pointer (some ⟨g1, 0, none⟩) ∧ f 4 = .pointer (some ⟨g2, 0, none⟩) ∧ f 20 = .int .i64 (Nd.cnt s : Int) ∧ f 21 = .int .i64 (i : Int) ∧
      h = [Own 27 3 (.slice none 0 0) 0 [], Own 63 3 (.slice a' i c') i ((Nd.kidsTo s i).flatMap Tok.tkC), .cells g2 35 #[.bool false, .slice none 0 0, .slice a' i c'], .cells g1 35 #[.bool false, .slice none 0 0, .slice none 0 0], .anchor w []]) (fun f _ => (Nd.cnt s - ival (f 21)).toNat) ?_ ?_
    · exact fun w1 hs => ⟨_, (hs.own_nil 63 3).own_nil 27 3, 0, none, 0, by omega, by omega, by (first | (simp -implicitDefEqProofs (disch := omega) only [go_sem]; done) | (simp -implicitDefEqProofs (disch := omega) only [go_sem]; rfl)), by (first | (simp -implicitDefEqProofs (disch := omega) only [go_sem]; done) | (simp -implicitDefEqProofs (disch := omega) only [go_sem]; rfl)), by (first | (simp -implicitDefEqProofs (disch := omega) only [go_sem]; done) | (simp -implicitDefEqProofs (disch := omega) only [go_sem]; rfl)), by (first | (simp -implicitDefEqProofs (disch := omega) only [go_sem]; done) | (simp -implicitDefEqProofs (disch := omega) only [go_sem]; rfl)), by (first | (simp -implicitDefEqProofs (disch := omega) only [go_sem]; done) | (simp -implicitDefEqProofs (disch := omega) only [go_sem]; rfl)), rfl⟩
    rintro f h ⟨i, a', c', hi, hc', e0, e2, e4, e20, e21, rfl⟩ Q' hQ'
    by_cases hil : i < Nd.cnt s
    · have g1' : (i : Int) < (Nd.cnt s : Int) := by omega
      have hrow := Nd.kidsTo_succ s i
      have hget := Nd.get_k s i
      simp -implicitDefEqProofs (disch := omega) only [go_sem, e0, e2, e4, e20, e21, g1', decide_true]
      refine RRun_buildz [.int .i64 4, .int .i64 4, .int .i64 4] (Nd.iv [4, 4, 4]) gints_sl rfl rfl (by decide) (fun v hv => by
        simp only [List.mem_cons, List.not_mem_nil, or_false] at hv
        rcases hv with rfl | rfl | rfl <;> rfl) rfl (by decide) fun gw hgw => ?_
      have ngw : g2 ≠ gw := by obtain ⟨_, _, h, _⟩ := hgw; exact Nat.ne_of_lt h
      simp -implicitDefEqProofs (disch := omega) only [go_sem, e0, e2, e4, e20, e21]
      refine RCall_newS (fun w1 hs => node_get s hsl (2 + 12 * (i : Int)) [4, 4, 4] (some ⟨gw, 0, none⟩) 3 (by omega) (by decide) (by decide) (by decide) w1 (ints_cells (t := 3) hs List.mem_cons_self)) ?_
      rintro _ _ ⟨gx, cx, sp, rfl, rfl⟩ hwx
      have nx : g2 ≠ gx := cells_ne hwx (by repeat (first | exact List.mem_cons_self | apply List.mem_cons_of_mem))
      have e3 : ([4, 4, 4] : List Int).length = 3 := rfl
      rw [e3, hget]
      generalize hx : Nd.kAt s i = x at *
      have hiv : Nd.iv [x.1, x.2.1, x.2.2] ++ sp = .int .i64 x.1 :: .int .i64 x.2.1 :: .int .i64 x.2.2 :: sp := rfl
      rw [hiv]
      simp -implicitDefEqProofs (disch := omega) only [go_sem, e0, e2, e4, e20, e21, Nd.getF_len]
      refine RDraw_seg (by kernel_rfl) (by kernel_rfl) 16 rfl ?_
      refine RS_cutR [0, 2, 3, 4, 5, 6, 7, 8, 9, 10, 11, 14] [1, 12, 13, 15] (by decide +kernel) ?_
      refine RS_det (by kernel_rfl) ?_
      repeat (first | refine ToO_step (fun Q hq => by (simp -implicitDefEqProofs (disch := omega) only [go_sem, e0, e2, e4, e20, e21]; exact hq)) ?_ | refine ToO_guard (by (simp -implicitDefEqProofs only [go_sem, e0, e2, e4, e20, e21]; first | done | fail)) (fun Q hq => by (simp -implicitDefEqProofs (disch := omega) only [go_sem, e0, e2, e4, e20, e21]; exact hq)) ?_ | refine ToO_skip (.inl (by (simp -implicitDefEqProofs only [go_sem, e0, e2, e4, e20, e21]; first | done | fail))) ?_ | refine ToO_skip (.inr (by (simp -implicitDefEqProofs only [go_sem, e0, e2, e4, e20, e21]; first | done | fail))) ?_)
      refine ToO_nil ?_
      refine RS_first [1, 12] (by kernel_rfl) ⟨?_, ?_, trivial⟩
      · simp -implicitDefEqProofs (disch := omega) only [go_sem, e0, e2, e4, e20, e21]
        refine RS_text (L := [12, 13, 15]) (by kernel_rfl) ?_
        simp -implicitDefEqProofs (disch := omega) only [go_sem, e0, e2, e4, e20, e21]
        refine RRun_build1z (cs := [.int .i64 x.1, .int .i64 x.2.1, .int .i64 x.2.2]) kids_sl rfl (by omega) fun gn hgn => ?_
        have ngn : g2 ≠ gn := by obtain ⟨_, _, _, _, h, _⟩ := hgn; exact Nat.ne_of_lt h
        simp -implicitDefEqProofs (disch := omega) only [go_sem, e0, e2, e4, e20, e21]
        refine RRun_append_cells kids_sl (fun _ hs => Sat.swap2 hs.2.2.2.2.2.2.2.2.2) rfl (tkC_one' x) (by omega) (by simp only [maxLen]; omega) fun a'' c'' hc'' => ?_
        simp -implicitDefEqProofs (disch := omega) only [go_sem, e0, e2, e4, e20, e21]
        refine hQ' _ _ fun w1 hs => ⟨_, hs.swap2, ⟨i + 1, a'', c'', by omega, hc'', ?_, ?_, ?_, ?_, ?_, by rw [hrow, tkC_snoc]⟩, ?_⟩
        · (first | (simp -implicitDefEqProofs (disch := omega) only [go_sem, e0, e2, e4, e20, e21]; done) | (simp -implicitDefEqProofs (disch := omega) only [go_sem, e0, e2, e4, e20, e21]; rfl))
        · (first | (simp -implicitDefEqProofs (disch := omega) only [go_sem, e0, e2, e4, e20, e21]; done) | (simp -implicitDefEqProofs (disch := omega) only [go_sem, e0, e2, e4, e20, e21]; rfl))
        · (first | (simp -implicitDefEqProofs (disch := omega) only [go_sem, e0, e2, e4, e20, e21]; done) | (simp -implicitDefEqProofs (disch := omega) only [go_sem, e0, e2, e4, e20, e21]; rfl))
        · (first | (simp -implicitDefEqProofs (disch := omega) only [go_sem, e0, e2, e4, e20, e21]; done) | (simp -implicitDefEqProofs (disch := omega) only [go_sem, e0, e2, e4, e20, e21]; rfl))
        · (first | (simp -implicitDefEqProofs (disch := omega) only [go_sem, e0, e2, e4, e20, e21]; done) | (simp -implicitDefEqProofs (disch := omega) only [go_sem, e0, e2, e4, e20, e21]; rfl))
        · simp -implicitDefEqProofs (disch := omega) only [go_sem, e0, e2, e4, e20, e21]; omega
      · simp -implicitDefEqProofs (disch := omega) only [go_sem, e0, e2, e4, e20, e21]
        refine RRun_build1z (cs := [.int .i64 x.1, .int .i64 x.2.1, .int .i64 x.2.2]) kids_sl rfl (by omega) fun gn hgn => ?_
        have ngn : g2 ≠ gn := by obtain ⟨_, _, _, _, h, _⟩ := hgn; exact Nat.ne_of_lt h
        simp -implicitDefEqProofs (disch := omega) only [go_sem, e0, e2, e4, e20, e21]
        refine RS_text (L := [1, 13, 15]) (by kernel_rfl) ?_
        simp -implicitDefEqProofs (disch := omega) only [go_sem, e0, e2, e4, e20, e21]
        refine RRun_append_cells kids_sl (fun _ hs => Sat.swap2 hs.2.2.2.2.2.2.2.2.2) rfl (tkC_one' x) (by omega) (by simp only [maxLen]; omega) fun a'' c'' hc'' => ?_
        simp -implicitDefEqProofs (disch := omega) only [go_sem, e0, e2, e4, e20, e21]
        refine hQ' _ _ fun w1 hs => ⟨_, hs.swap2, ⟨i + 1, a'', c'', by omega, hc'', ?_, ?_, ?_, ?_, ?_, by rw [hrow, tkC_snoc]⟩, ?_⟩
        · (first | (simp -implicitDefEqProofs (disch := omega) only [go_sem, e0, e2, e4, e20, e21]; done) | (simp -implicitDefEqProofs (disch := omega) only [go_sem, e0, e2, e4, e20, e21]; rfl))
        · (first | (simp -implicitDefEqProofs (disch := omega) only [go_sem, e0, e2, e4, e20, e21]; done) | (simp -implicitDefEqProofs (disch := omega) only [go_sem, e0, e2, e4, e20, e21]; rfl))
        · (first | (simp -implicitDefEqProofs (disch := omega) only [go_sem, e0, e2, e4, e20, e21]; done) | (simp -implicitDefEqProofs (disch := omega) only [go_sem, e0, e2, e4, e20, e21]; rfl))
        · (first | (simp -implicitDefEqProofs (disch := omega) only [go_sem, e0, e2, e4, e20, e21]; done) | (simp -implicitDefEqProofs (disch := omega) only [go_sem, e0, e2, e4, e20, e21]; rfl))
        · (first | (simp -implicitDefEqProofs (disch := omega) only [go_sem, e0, e2, e4, e20, e21]; done) | (simp -implicitDefEqProofs (disch := omega) only [go_sem, e0, e2, e4, e20, e21]; rfl))
        · simp -implicitDefEqProofs (disch := omega) only [go_sem, e0, e2, e4, e20, e21]; omega
    have g1' : ¬ (i : Int) < (Nd.cnt s : Int) := by omega
    obtain rfl : i = Nd.cnt s := by omega
    have hl2 := Nd.kidsTo_len s (Nd.cnt s)
    rw [hun] at hbe
    rw [hun] at hpv
    generalize Nd.kidsTo s (Nd.cnt s) = r at *
    simp -implicitDefEqProofs (disch := omega) only [go_sem, e0, e2, e4, e20, e21, g1', decide_false]
    rw [← hl2] at hc' hcl ⊢
    refine RCall_eqS (u := .tuple #[str bb, .int .i64 be]) (fun w1 hs => ?_) ?_
    · have := node_build ⟨false, [], r⟩ none a' 0 c' (by simp) (show r.length ≤ 2147483648 by omega) w1 ⟨Rd.nil _ _ _ _, own_rd hs (List.mem_cons_of_mem _ List.mem_cons_self)⟩
      rw [hbe] at this
      exact this
    by_cases k1 : be = 0
    · by_cases k2 : bb = s
      · rw [if_pos ⟨k1, k2⟩] at hpv
        rw [hpv] at hQ
        simp -implicitDefEqProofs (disch := omega) only [go_sem, e0, e2, e4, e20, e21, k1, k2, decide_true]
        exact hQ _ _ fun w' hs => ⟨_, Sat.drop34 hs, _, rfl, none, 0, a', c', rfl, Nat.le_refl _, hc', rfl⟩
      · rw [if_neg (fun h => k2 h.2)] at hpv
        rw [hpv] at hQ
        simp -implicitDefEqProofs (disch := omega) only [go_sem, e0, e2, e4, e20, e21, k1, k2, decide_true, decide_false]
        exact hQ _ _ fun w' hs => hfail 4 w' _ hs (by simp)
    · rw [if_neg (fun h => k1 h.1)] at hpv
      rw [hpv] at hQ
      simp -implicitDefEqProofs (disch := omega) only [go_sem, e0, e2, e4, e20, e21, k1, decide_false]
      exact hQ _ _ fun w' hs => hfail 4 w' _ hs (by simp)
end Go.Proofs.Ytlmbebnpnnkhmaa
