/- The symbolic heap of my walks: a list of things that are known of a world, each with the blocks that it stands on; what an operation does to it. -/
import Derived.Tactics
import Derived.Orders
import Derived.Scope
import Derived.KernelRfl
namespace Go.Proofs.Ytldidoaagijnhaa
set_option linter.unusedSimpArgs false
set_option linter.unusedVariables false
namespace H

abbrev Fr := Nat → Value
def upd (f : Fr) (d : Nat) (v : Value) : Fr := fun t => if t = d then v else f t
def put (f : Fr) (d : Option Nat) (v : Value) : Fr := match d with | some d => upd f d v | none => f
def ev (f : Fr) : Operand → Value
  | .tmp t => f t
  | .const v => v
  | .global g => .pointer (some ⟨g, 0, none⟩)
  | .func k => .func (.func k) #[] #[]
def fr (a : Act) : Fr := fun t => a.tmps.getD t undef

theorem ev_fr (a : Act) (x : Operand) : a.eval x = ev (fr a) x := by cases x <;> rfl
theorem eval_fr (a : Act) : a.eval = ev (fr a) := funext (ev_fr a)

theorem fr_put (a : Act) (d : Option Nat) (v : Value) (hd : ∀ k, d = some k → k < a.tmps.size) : fr (a.put d v) = put (fr a) d v := by
  cases d with
  | none => rfl
  | some k =>
    have hk := hd k rfl
    funext t
    simp only [fr, Act.put, put, upd, Array.getD_eq_getD_getElem?]
    by_cases h : t = k
    · subst h; simp [hk]
    · rw [if_neg h, Array.getElem?_setIfInBounds_ne (Ne.symm h)]

theorem put_size (a : Act) (d : Option Nat) (v : Value) : (a.put d v).tmps.size = a.tmps.size := by
  cases d <;> simp [Act.put]
theorem put_defers (a : Act) (d : Option Nat) (v : Value) : (a.put d v).defers = a.defers := by
  cases d <;> simp [Act.put]

/-- A predicate of worlds that looks at some blocks alone. -/
def Stable (fp : Nat → Prop) (p : World → Prop) : Prop := ∀ w w' : World, (∀ k, fp k → w'.heap[k]? = w.heap[k]?) → p w → p w'

inductive Res where
  | cells (g : Nat) (t : TypeId) (cs : Array Value)
  | anchor (w0 : World) (S : List Nat)
  | sem (fp : Nat → Prop) (p : World → Prop) (st : Stable fp p)

def Res.fp : Res → Nat → Prop
  | .cells g _ _, k => k = g
  | .anchor w0 S, k => k < w0.heap.size ∧ k ∉ S
  | .sem fp _ _, k => fp k

/-- Nothing that was there has turned, but the blocks of S. -/
structure Ext (S : List Nat) (w w' : World) : Prop where
  os : w'.os = w.os
  tape : w'.tape = w.tape
  output : w'.output = w.output
  size : w.heap.size ≤ w'.heap.size
  block : ∀ k, k < w.heap.size → k ∉ S → w'.heap[k]? = w.heap[k]?

/-- A row of cells, all of which may be written. -/
def Row (w : World) (g : Nat) (t : TypeId) (cs : Array Value) : Prop := ∃ fr : Nat × Nat, w.heap[g]? = some (.cells cs t fr) ∧ (fr.2 ≤ fr.1 ∨ cs.size ≤ fr.1)
theorem Row.plain {w : World} {g : Nat} {t : TypeId} {cs : Array Value} (h : w.heap[g]? = some (.cells cs t (0, 0))) : Row w g t cs := ⟨(0, 0), h, .inl (Nat.le_refl _)⟩
theorem Row.of_block {w w' : World} {g : Nat} {t : TypeId} {cs : Array Value} (h : Row w g t cs) (e : w'.heap[g]? = w.heap[g]?) : Row w' g t cs := by
  obtain ⟨fr, h1, h2⟩ := h; exact ⟨fr, e.trans h1, h2⟩
def Res.holds (w : World) : Res → Prop
  | .cells g t cs => Row w g t cs
  | .anchor w0 S => Ext S w0 w
  | .sem _ p _ => p w

def Sat (w : World) : List Res → Prop
  | [] => True
  | r :: h => r.holds w ∧ (∀ k, r.fp k → k < w.heap.size) ∧ (∀ r' ∈ h, ∀ k, r.fp k → ¬ r'.fp k) ∧ Sat w h

theorem Ext.refl (S : List Nat) (w : World) : Ext S w w := ⟨rfl, rfl, rfl, Nat.le_refl _, fun _ _ _ => rfl⟩
theorem Ext.trans {S : List Nat} {a b c : World} (h : Ext S a b) (k : Ext S b c) : Ext S a c :=
  ⟨k.os.trans h.os, k.tape.trans h.tape, k.output.trans h.output, Nat.le_trans h.size k.size, fun i hi hS => (k.block i (Nat.lt_of_lt_of_le hi h.size) hS).trans (h.block i hi hS)⟩
theorem Ext.mono {S T : List Nat} {a b : World} (h : Ext S a b) (hs : ∀ k ∈ S, k ∈ T) : Ext T a b :=
  ⟨h.os, h.tape, h.output, h.size, fun i hi hT => h.block i hi fun hS => hT (hs i hS)⟩

theorem Ext.alloc (w : World) (o : Obj) : Ext [] w (w.alloc o) :=
  ⟨rfl, rfl, rfl, by simp, fun k hk _ => by show (w.heap.push o)[k]? = _; rw [Array.getElem?_push, if_neg (by omega)]⟩
theorem Ext.drew (w : World) : Ext [] w w.drew := ⟨rfl, rfl, rfl, Nat.le_refl _, fun _ _ _ => rfl⟩
theorem Ext.setCell (w : World) (a : Addr) (v : Value) : Ext [a.block] w (w.setCell a v) :=
  ⟨rfl, rfl, rfl, by simp [World.setCell], fun k _ hS => by
    have : a.block ≠ k := fun e => hS (by simp [e])
    simp [World.setCell, Array.getElem?_modify, this]⟩

theorem Res.keep {r : Res} {S : List Nat} {w w' : World} (hx : Ext S w w') (hr : r.holds w) (hl : ∀ k, r.fp k → k < w.heap.size) (hS : ∀ k ∈ S, ¬ r.fp k) : r.holds w' := by
  have hb : ∀ k, r.fp k → w'.heap[k]? = w.heap[k]? := fun k hk => hx.block k (hl k hk) fun hks => hS k hks hk
  cases r with
  | cells g t cs => exact Row.of_block hr (hb g rfl)
  | anchor w0 S0 =>
    exact ⟨hx.os.trans hr.os, hx.tape.trans hr.tape, hx.output.trans hr.output, Nat.le_trans hr.size hx.size, fun k hk hS => (hb k ⟨hk, hS⟩).trans (hr.block k hk hS)⟩
  | sem fp p st => exact st w w' hb hr

theorem Sat.keep {S : List Nat} {w w' : World} (hx : Ext S w w') : ∀ {h : List Res}, Sat w h → (∀ r ∈ h, ∀ k ∈ S, ¬ r.fp k) → Sat w' h
  | [], _, _ => trivial
  | r :: _, ⟨h1, h2, h3, h4⟩, hS =>
    ⟨Res.keep hx h1 h2 (hS r (List.mem_cons_self ..)), fun k hk => Nat.lt_of_lt_of_le (h2 k hk) hx.size, h3, Sat.keep hx h4 fun r' hr' => hS r' (List.mem_cons_of_mem _ hr')⟩

theorem Sat.ext {w w' : World} {h : List Res} (hs : Sat w h) (hx : Ext [] w w') : Sat w' h := hs.keep hx fun _ _ _ hk => absurd hk (by simp)

theorem Sat.lt {w : World} : ∀ {h : List Res}, Sat w h → ∀ r ∈ h, ∀ k, r.fp k → k < w.heap.size
  | r :: h, ⟨_, h2, _, h4⟩, r', hr', k, hk => by
    rcases List.mem_cons.1 hr' with rfl | hm
    · exact h2 k hk
    · exact Sat.lt h4 r' hm k hk

theorem Sat.mem {w : World} : ∀ {h : List Res}, Sat w h → ∀ r ∈ h, r.holds w
  | r :: h, ⟨h1, _, _, h4⟩, r', hr' => by
    rcases List.mem_cons.1 hr' with rfl | hm
    · exact h1
    · exact Sat.mem h4 r' hm

/-- Every block of the list lies below g. -/
def Res.under (g : Nat) : Res → Prop
  | .cells g' _ _ => g' < g
  | .anchor w0 _ => w0.heap.size ≤ g
  | .sem fp _ _ => ∀ k, fp k → k < g
def below (g : Nat) : List Res → Prop
  | [] => True
  | r :: h => r.under g ∧ below g h

theorem Sat.below {w : World} : ∀ {h : List Res}, Sat w h → H.below w.heap.size h
  | [], _ => trivial
  | r :: h, ⟨h1, h2, _, h4⟩ => ⟨by
    cases r with
    | cells g t cs => exact h2 g rfl
    | anchor w0 S => exact h1.size
    | sem fp p st => exact h2, Sat.below h4⟩

theorem Sat.alloc {w : World} {h : List Res} (hs : Sat w h) (t : TypeId) (cs : Array Value) : Sat (w.alloc (.cells cs t)) (.cells w.heap.size t cs :: h) :=
  ⟨Row.plain (by show (w.heap.push _)[w.heap.size]? = _; simp), fun k hk => by cases hk; simp, fun r' hr' k hk hk' => by
    cases hk; exact absurd (hs.lt r' hr' _ hk') (Nat.lt_irrefl _), hs.ext (Ext.alloc w _)⟩

theorem Sat.start (w : World) (S : List Nat) : Sat w [.anchor w S] :=
  ⟨Ext.refl S w, fun _ hk => hk.1, fun _ h => absurd h (by simp), trivial⟩

/-- What the list gives of one cell. -/
def look (ad : Addr) : List Res → Option Value
  | [] => none
  | .cells g _ cs :: h => if ad.block = g then (if ad.spot = none then cs[ad.off]? else none) else look ad h
  | .anchor w0 S :: h => if ad.block < w0.heap.size ∧ ad.block ∉ S then w0.cell? ad else look ad h
  | .sem _ _ _ :: h => look ad h

theorem cell_of_block {w w' : World} {ad : Addr} (h : w'.heap[ad.block]? = w.heap[ad.block]?) : w'.cell? ad = w.cell? ad := by
  unfold World.cell?; rw [h]
theorem cell_cells {w : World} {g : Nat} {t : TypeId} {cs : Array Value} {ad : Addr} (h : Row w g t cs) (hb : ad.block = g) : w.cell? ad = if ad.spot = none then cs[ad.off]? else none := by
  obtain ⟨fr, h, _⟩ := h
  unfold World.cell?; rw [hb, h]
  cases ad.spot <;> simp

theorem look_sound {w : World} {ad : Addr} {v : Value} : ∀ {h : List Res}, Sat w h → look ad h = some v → w.cell? ad = some v
  | .cells g t cs :: h, ⟨h1, _, _, h4⟩, hl => by
    simp only [look] at hl
    split at hl
    · rename_i hb; rw [cell_cells h1 hb]; exact hl
    · exact look_sound h4 hl
  | .anchor w0 S :: h, ⟨h1, _, _, h4⟩, hl => by
    simp only [look] at hl
    split at hl
    · rename_i hb; rw [cell_of_block (h1.block _ hb.1 hb.2)]; exact hl
    · exact look_sound h4 hl
  | .sem _ _ _ :: h, ⟨_, _, _, h4⟩, hl => look_sound h4 (by simpa only [look] using hl)

/-- A store into one cell. -/
def hset (ad : Addr) (v : Value) : List Res → Option (List Res)
  | [] => none
  | .cells g t cs :: h => if ad.block = g then (if ad.spot = none ∧ ad.off < cs.size then some (.cells g t (cs.setIfInBounds ad.off v) :: h) else none) else (hset ad v h).map (.cells g t cs :: ·)
  | .anchor w0 S :: h => if ad.block < w0.heap.size ∧ ad.block ∉ S then none else (hset ad v h).map (.anchor w0 S :: ·)
  | .sem fp p st :: h => (hset ad v h).map (.sem fp p st :: ·)

/-- What a store's list looks like: one row of cells has turned. -/
theorem hset_form {ad : Addr} {v : Value} : ∀ {h h' : List Res}, hset ad v h = some h' →
    ∃ pre suf t cs, h = pre ++ .cells ad.block t cs :: suf ∧ h' = pre ++ .cells ad.block t (cs.setIfInBounds ad.off v) :: suf ∧ ad.spot = none ∧ ad.off < cs.size
  | .cells g t cs :: h, h', hl => by
    simp only [hset] at hl
    split at hl
    · rename_i hb
      split at hl
      · rename_i hc
        injection hl with hl
        subst hl; subst hb
        exact ⟨[], h, t, cs, rfl, rfl, hc.1, hc.2⟩
      · cases hl
    · cases hr : hset ad v h with
      | none => rw [hr] at hl; cases hl
      | some h1 =>
        rw [hr] at hl; injection hl with hl; subst hl
        obtain ⟨pre, suf, t', cs', e1, e2, e3, e4⟩ := hset_form hr
        exact ⟨.cells g t cs :: pre, suf, t', cs', by rw [e1]; rfl, by rw [e2]; rfl, e3, e4⟩
  | .anchor w0 S :: h, h', hl => by
    simp only [hset] at hl
    split at hl
    · cases hl
    · cases hr : hset ad v h with
      | none => rw [hr] at hl; cases hl
      | some h1 =>
        rw [hr] at hl; injection hl with hl; subst hl
        obtain ⟨pre, suf, t', cs', e1, e2, e3, e4⟩ := hset_form hr
        exact ⟨.anchor w0 S :: pre, suf, t', cs', by rw [e1]; rfl, by rw [e2]; rfl, e3, e4⟩
  | .sem fp p st :: h, h', hl => by
    simp only [hset] at hl
    cases hr : hset ad v h with
    | none => rw [hr] at hl; cases hl
    | some h1 =>
      rw [hr] at hl; injection hl with hl; subst hl
      obtain ⟨pre, suf, t', cs', e1, e2, e3, e4⟩ := hset_form hr
      exact ⟨.sem fp p st :: pre, suf, t', cs', by rw [e1]; rfl, by rw [e2]; rfl, e3, e4⟩

/-- One thing of the list turns into another one over the same blocks or new ones. -/
theorem Sat.swap {w w' : World} {S : List Nat} {r r' : Res} {suf : List Res} (hx : Ext S w w') (hS : ∀ k ∈ S, r.fp k) (hr' : r'.holds w') (hlt : ∀ k, r'.fp k → k < w'.heap.size)
    (hfp : ∀ k, r'.fp k → r.fp k ∨ w.heap.size ≤ k) : ∀ {pre : List Res}, Sat w (pre ++ r :: suf) → Sat w' (pre ++ r' :: suf)
  | [], ⟨_, h2, h3, h4⟩ => ⟨hr', hlt, fun q hq k hk hk' => by
      rcases hfp k hk with h | h
      · exact h3 q hq k h hk'
      · exact absurd (h4.lt q hq k hk') (by omega), h4.keep hx fun q hq k hk hk' => h3 q hq k (hS k hk) hk'⟩
  | p :: pre, ⟨h1, h2, h3, h4⟩ => by
    refine ⟨Res.keep hx h1 h2 fun k hk hk' => h3 r (by simp) k hk' (hS k hk), fun k hk => Nat.lt_of_lt_of_le (h2 k hk) hx.size, ?_, Sat.swap hx hS hr' hlt hfp h4⟩
    intro q hq k hk hk'
    rcases List.mem_append.1 hq with hm | hm
    · exact h3 q (List.mem_append.2 (.inl hm)) k hk hk'
    · rcases List.mem_cons.1 hm with rfl | hm
      · rcases hfp k hk' with h | h
        · exact h3 r (by simp) k hk h
        · exact absurd (h2 k hk) (by omega)
      · exact h3 q (by simp [hm]) k hk hk'

theorem hset_sound {w : World} {ad : Addr} {v : Value} {h h' : List Res} (hs : Sat w h) (hl : hset ad v h = some h') :
    (∃ u, w.cell? ad = some u) ∧ w.frozen? ad = false ∧ Sat (w.setCell ad v) h' := by
  obtain ⟨pre, suf, t, cs, rfl, rfl, h1, h2⟩ := hset_form hl
  have hr : Row w ad.block t cs := hs.mem (.cells ad.block t cs) (by simp)
  obtain ⟨fr, hh, hf⟩ := hr
  refine ⟨⟨cs[ad.off], ?_⟩, ?_, ?_⟩
  · rw [cell_cells (hs.mem (.cells ad.block t cs) (by simp)) rfl, if_pos h1]; simp [h2]
  · unfold World.frozen?; rw [hh]
    obtain ⟨lo, hi⟩ := fr
    simp only [Bool.and_eq_false_iff, decide_eq_false_iff_not] at hf ⊢
    omega
  · refine Sat.swap (r := .cells ad.block t cs) (r' := .cells ad.block t (cs.setIfInBounds ad.off v)) (Ext.setCell w ad v) (fun k hk => by simpa [Res.fp] using hk) ?_ (fun k hk => ?_) (fun k hk => .inl hk) hs
    · refine ⟨fr, ?_, by simpa using hf⟩
      simp [World.setCell, Array.getElem?_modify, hh, h1]
    · cases hk
      have := hs.lt (.cells ad.block t cs) (by simp) ad.block rfl
      simpa [World.setCell] using this

/-- The end of a function: what its anchor says. -/
theorem Sat.anchor {w w0 : World} {S : List Nat} {h : List Res} (hs : Sat w h) (hm : Res.anchor w0 S ∈ h) : Ext S w0 w := hs.mem _ hm

/-- Less is known. -/
theorem Sat.sub {w : World} : ∀ {h h' : List Res}, h'.Sublist h → Sat w h → Sat w h'
  | _, _, .slnil, _ => trivial
  | _, _, .cons r hsub, ⟨_, _, _, h4⟩ => Sat.sub hsub h4
  | _, _, .cons_cons r hsub, ⟨h1, h2, h3, h4⟩ => ⟨h1, h2, fun q hq => h3 q (hsub.subset hq), Sat.sub hsub h4⟩
end H
end Go.Proofs.Ytldidoaagijnhaa
