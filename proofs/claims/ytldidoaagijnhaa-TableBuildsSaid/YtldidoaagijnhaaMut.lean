/- Calls that turn blocks of their caller. -/
import Derived.Test.YtldidoaagijnhaaRead
namespace Go.Proofs.Ytldidoaagijnhaa
set_option linter.unusedSimpArgs false
set_option linter.unusedVariables false
namespace H
open Go
/-- What a callee may turn is put back among what its caller knows. -/
theorem Sat.frame {w w' : World} {S : List Nat} {suf : List Res} : ∀ {rs0 rs1 : List Res}, Sat w (rs0 ++ suf) → (∀ k ∈ S, ∃ r ∈ rs0, r.fp k) → Sat w' (rs1 ++ [.anchor w S]) → Sat w' (rs1 ++ suf) := by
  intro rs0 rs1 hs hS
  have hd : ∀ r ∈ suf, ∀ k, r.fp k → k < w.heap.size ∧ k ∉ S := by
    intro r hr k hk
    refine ⟨hs.lt r (by simp [hr]) k hk, fun hkS => ?_⟩
    obtain ⟨r0, h0, hk0⟩ := hS k hkS
    have : ∀ {rs : List Res}, Sat w (rs ++ suf) → r0 ∈ rs → False := by
      intro rs
      induction rs with
      | nil => intro _ h; simp at h
      | cons q rs ih =>
        intro hq hm
        obtain ⟨h1, h2, h3, h4⟩ := hq
        rcases List.mem_cons.1 hm with rfl | hm
        · exact h3 r (by simp [hr]) k hk0 hk
        · exact ih h4 hm
    exact this hs h0
  have hsuf : Sat w suf := by
    clear hS
    induction rs0 with
    | nil => exact hs
    | cons q rs ih => exact ih hs.2.2.2
  induction rs1 with
  | nil =>
    intro h'
    have hx : Ext S w w' := h'.mem (.anchor w S) (by simp)
    exact hsuf.keep hx fun r hr k hk hk' => (hd r hr k hk').2 hk
  | cons r1 rs1 ih =>
    intro h'
    obtain ⟨h1, h2, h3, h4⟩ := h'
    refine ⟨h1, h2, fun q hq k hk hk' => ?_, ih h4⟩
    rcases List.mem_append.1 hq with hm | hm
    · exact h3 q (by simp [hm]) k hk hk'
    · exact h3 (.anchor w S) (by simp) k hk (hd q hm k hk')
/-- From here on: nothing turns but some blocks. -/
theorem Sat.reanchors {w : World} {S : List Nat} {suf : List Res} : ∀ {rs : List Res}, Sat w (rs ++ suf) → (∀ r ∈ rs, ∀ k, r.fp k → k ∈ S) → Sat w (rs ++ [.anchor w S])
  | [], _, _ => Sat.start w S
  | r :: rs, ⟨h1, h2, h3, h4⟩, hS => ⟨h1, h2, fun q hq k hk hk' => by
      rcases List.mem_append.1 hq with hm | hm
      · exact h3 q (by simp [hm]) k hk hk'
      · obtain rfl : q = .anchor w S := by simpa using hm
        exact hk'.2 (hS r (by simp) k hk), Sat.reanchors h4 fun q hq => hS q (by simp [hq])⟩
theorem RCall_frame {P : Program} {k : FuncId} {args : Array Value} {d : Option Nat} {ops rest : List Oper} {s : List Kn} {f : Fr} {h : List Res} {Q : Exit → Fr → List Res → Prop} {Φ : Value → List Res → Prop} (rs0 suf : List Res) (S : List Nat) (hh : ∀ w, Sat w h → Sat w (rs0 ++ suf)) (hS : ∀ k ∈ S, ∃ r ∈ rs0, r.fp k)
    (c : ∀ w, Sat w (rs0 ++ suf) → Does P k args w fun v w' => ∃ rs1, Sat w' (rs1 ++ [.anchor w S]) ∧ Φ v rs1) (hk : ∀ v rs1, Φ v rs1 → RL P ops rest s (put f d v) (rs1 ++ suf) Q) : RCall P k args ⟨d, ops, rest, s⟩ f h Q :=
  RCall_any fun w hs => (c w (hh w hs)).mono fun v _ ⟨rs1, hr, hv⟩ => ⟨rs1 ++ suf, (hh w hs).frame hS hr, hk v rs1 hv⟩
/-- A callee that turns one row. -/
theorem RCall_mut {P : Program} {k : FuncId} {args : Array Value} {d : Option Nat} {ops rest : List Oper} {s : List Kn} {f : Fr} {h : List Res} {Q : Exit → Fr → List Res → Prop} {g : Nat} {t : TypeId} {cs : Array Value} {Φ : Value → Array Value → Prop} (pre suf : List Res) (he : h = pre ++ .cells g t cs :: suf)
    (c : ∀ w, Sat w (pre ++ .cells g t cs :: suf) → Does P k args w fun v w' => ∃ cs', Row w' g t cs' ∧ Ext [g] w w' ∧ Φ v cs') (hk : ∀ v cs', Φ v cs' → RL P ops rest s (put f d v) (pre ++ .cells g t cs' :: suf) Q) : RCall P k args ⟨d, ops, rest, s⟩ f h Q := by
  subst he
  refine RCall_any fun w hs => (c w hs).mono fun v w' ⟨cs', hr, hx, hv⟩ => ⟨_, ?_, hk v cs' hv⟩
  refine Sat.swap (r := .cells g t cs) (r' := .cells g t cs') hx (fun k hk => by simpa [Res.fp] using hk) hr (fun k hk => ?_) (fun k hk => .inl hk) hs
  cases hk
  exact Nat.lt_of_lt_of_le (hs.lt (.cells g t cs) (by simp) g rfl) hx.size
/-- The row at a place of the list. -/
theorem Sat.row {w : World} {h : List Res} {g : Nat} {t : TypeId} {cs : Array Value} (hs : Sat w h) (hm : Res.cells g t cs ∈ h) : Row w g t cs ∧ g < w.heap.size := ⟨hs.mem _ hm, hs.lt _ hm g rfl⟩
/-- The start of a function that may turn a row. -/
theorem Sat.one {w : World} {g : Nat} {t : TypeId} {cs : Array Value} (hr : Row w g t cs) (hg : g < w.heap.size) : Sat w [.cells g t cs, .anchor w [g]] :=
  ⟨hr, fun k hk => by cases hk; exact hg, fun r hr k hk hk' => by
    obtain rfl : r = .anchor w [g] := by simpa using hr
    obtain rfl : k = g := hk
    exact hk'.2 (by simp), Sat.start w [g]⟩
theorem look_anchor2 (b o : Nat) (s : Option Nat) (w0 : World) (g g2 : Nat) (h : List Res) (hb : b < w0.heap.size) (hg : b ≠ g) (hg2 : b ≠ g2) : look ⟨b, o, s⟩ (.anchor w0 [g, g2] :: h) = w0.cell? ⟨b, o, s⟩ := by simp [look, hb, hg, hg2]
theorem lookN_anchor2 (b o n : Nat) (s : Option Nat) (w0 : World) (g g2 : Nat) (h : List Res) (hb : b < w0.heap.size) (hg : b ≠ g) (hg2 : b ≠ g2) : lookN ⟨b, o, s⟩ n (.anchor w0 [g, g2] :: h) = cellsN w0 ⟨b, o, s⟩ n := by simp [lookN, hb, hg, hg2, cellsN]
attribute [go_sem] look_anchor2 lookN_anchor2
end H
end Go.Proofs.Ytldidoaagijnhaa
