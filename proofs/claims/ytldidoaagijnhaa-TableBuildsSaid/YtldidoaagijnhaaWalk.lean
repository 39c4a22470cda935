/- My walk: what a function's code does to a frame (a function of slots) and to a symbolic heap, as equations that simp can run; and that this is what the model's weakest precondition asks. -/
import Derived.Test.YtldidoaagijnhaaHeap
import Derived.Laws.Entries
import Derived.Laws.Strings
import Derived.Lib.Strings
namespace Go.Proofs.Ytldidoaagijnhaa
set_option linter.unusedSimpArgs false
set_option linter.unusedVariables false
namespace H

def wO {α : Type} (o : Option α) (K : α → Prop) : Prop := ∃ x, o = some x ∧ K x
theorem wO_some {α : Type} (x : α) (K : α → Prop) : wO (some x) K = K x := by simp [wO]
theorem wO_none {α : Type} (K : α → Prop) : wO none K = False := by simp [wO]
theorem wO_if {α : Type} (c : Prop) [Decidable c] (o : Option α) (K : α → Prop) : wO (if c then o else none) K = (c ∧ wO o K) := by
  by_cases h : c <;> simp [h, wO_none]
theorem wO_pos {α : Type} (c : Prop) [Decidable c] (o : Option α) (K : α → Prop) (h : c) : wO (if c then o else none) K = wO o K := by simp [h]
theorem wO_mono {α : Type} {o : Option α} {K K' : α → Prop} (hk : ∀ x, K x → K' x) (h : wO o K) : wO o K' := by
  obtain ⟨x, e, hx⟩ := h; exact ⟨x, e, hk x hx⟩

/-- The value of what looks at no world. -/
noncomputable def pureV (P : Program) (s : Sem Value) : Option Value := by
  classical exact if h : ∃ v, ∀ w, s.run P w = .ok v w then some (Classical.choose h) else none
theorem pureV_eq {P : Program} {s : Sem Value} {v : Value} (h : ∀ w, s.run P w = .ok v w) : pureV P s = some v := by
  have hex : ∃ v, ∀ w, s.run P w = .ok v w := ⟨v, h⟩
  unfold pureV
  rw [dif_pos hex]
  have := Classical.choose_spec hex default
  rw [h default] at this
  injection this with this
  rw [← this]
theorem pureV_run {P : Program} {s : Sem Value} {v : Value} (h : pureV P s = some v) (w : World) : s.run P w = .ok v w := by
  unfold pureV at h
  split at h
  · rename_i hex; injection h with h; rw [← h]; exact Classical.choose_spec hex w
  · cases h

def Br (b : Bool) (A B : Prop) : Prop := if b = true then A else B
theorem Br_true (A B : Prop) : Br true A B = A := by simp [Br]
theorem Br_false (A B : Prop) : Br false A B = B := by simp [Br]
@[congr] theorem Br_congr {b b' : Bool} (A B : Prop) (h : b = b') : Br b A B = Br b' A B := by rw [h]
theorem Br_intro {b : Bool} {A B : Prop} (h1 : b = true → A) (h2 : b = false → B) : Br b A B := by
  cases b
  · exact h2 rfl
  · exact h1 rfl
theorem Br_mono {b : Bool} {A B A' B' : Prop} (h1 : A → A') (h2 : B → B') (h : Br b A B) : Br b A' B' := by
  cases b
  · exact h2 h
  · exact h1 h

def szOf (P : Program) (t : TypeId) : Option Nat := (P.info? t).map (·.size)
def zeroT (P : Program) (t : TypeId) : Option Value := (P.info? t).bind (·.zero)
/-- How a variable of a type is read: one cell (none), or so many. -/
def ldk (P : Program) (t : TypeId) : Option (Option Nat) :=
  match P.underlying t with
  | some (.struct _) | some (.array _ _) => (szOf P t).map some
  | some _ => some none
  | none => none

theorem run_sizeOf {P : Program} {t n : Nat} (h : szOf P t = some n) (w : World) : (sizeOf t).run P w = .ok n w := by
  unfold szOf at h
  cases hi : P.info? t with
  | none => rw [hi] at h; cases h
  | some i => rw [hi] at h; injection h with h; subst h; simp [sizeOf, typeInfo, hi]
theorem run_zero {P : Program} {t : Nat} {v : Value} (h : zeroT P t = some v) (w : World) : (zeroValue t).run P w = .ok v w := by
  unfold zeroT at h
  cases hi : P.info? t with
  | none => rw [hi] at h; cases h
  | some i =>
    rw [hi] at h
    have hz : i.zero = some v := h
    simp [zeroValue, typeInfo, hi, hz]

/-- A type's kind, as the operations ask it. -/
inductive Kd where
  | int (k : IntKind)
  | bool
  | str
  | slice (e sz : Nat)
  | arr (n e sz : Nat) (b : Bool)
  | struct (fs : List (Nat × Nat × Bool))
  | ptr (e : Nat)
  | map (k e : Nat)
  | other
def aggT (P : Program) (t : TypeId) : Option Bool :=
  match P.underlying t with
  | some (.struct _) | some (.array _ _) => some true
  | some _ => some false
  | none => none
def kd (P : Program) (t : TypeId) : Option Kd :=
  match P.underlying t with
  | some (.int k) => some (.int k)
  | some .bool => some .bool
  | some .string => some .str
  | some (.slice e) => (szOf P e).map (.slice e)
  | some (.array n e) => (szOf P e).bind fun z => (aggT P e).map fun b => .arr n e z b
  | some (.struct fs) => (fs.toList.mapM fun f => (szOf P f.type).bind fun z => (aggT P f.type).map fun b => (f.offset, z, b)).map .struct
  | some (.pointer e) => some (.ptr e)
  | some (.map k e) => some (.map k e)
  | some _ => some .other
  | none => none

theorem run_agg {P : Program} {t : TypeId} {b : Bool} (h : aggT P t = some b) (w : World) : (isAgg t).run P w = .ok b w := by
  unfold aggT at h
  cases hu : P.underlying t with
  | none => rw [hu] at h; cases h
  | some d => rw [hu] at h; cases d <;> simp at h <;> subst h <;> simp [isAgg, underlying, hu]

/-- What a kind says of its type. -/
inductive KdSays (P : Program) (t : TypeId) : Kd → Prop where
  | int (k) (h : P.underlying t = some (.int k)) : KdSays P t (.int k)
  | bool (h : P.underlying t = some .bool) : KdSays P t .bool
  | str (h : P.underlying t = some .string) : KdSays P t .str
  | slice (e z) (h : P.underlying t = some (.slice e)) (hz : szOf P e = some z) : KdSays P t (.slice e z)
  | arr (n e z b) (h : P.underlying t = some (.array n e)) (hz : szOf P e = some z) (hb : aggT P e = some b) : KdSays P t (.arr n e z b)
  | struct (fs : Array Field) (l) (h : P.underlying t = some (.struct fs)) (hl : ∀ (i o z : Nat) (b : Bool), l[i]? = some (o, z, b) → ∃ f : Field, fs[i]? = some f ∧ f.offset = o ∧ szOf P f.type = some z ∧ aggT P f.type = some b) : KdSays P t (.struct l)
  | ptr (e) (h : P.underlying t = some (.pointer e)) : KdSays P t (.ptr e)
  | map (k e) (h : P.underlying t = some (.map k e)) : KdSays P t (.map k e)
  | other (d) (h : P.underlying t = some d) : KdSays P t .other

theorem mapM_fields {P : Program} : ∀ (fs : List Field) (l : List (Nat × Nat × Bool)), (fs.mapM fun f => (szOf P f.type).bind fun z => (aggT P f.type).map fun b => (f.offset, z, b)) = some l →
    ∀ (i o z : Nat) (b : Bool), l[i]? = some (o, z, b) → ∃ f : Field, fs[i]? = some f ∧ f.offset = o ∧ szOf P f.type = some z ∧ aggT P f.type = some b
  | [], l, h, i, o, z, b, hi => by simp at h; subst h; simp at hi
  | f :: fs, l, h, i, o, z, b, hi => by
    simp only [List.mapM_cons, Option.bind_eq_bind, Option.bind_eq_some_iff] at h
    obtain ⟨x, ⟨z', hz, hx⟩, ys, hy, e⟩ := h
    have e' : x :: ys = l := by simpa using e
    subst e'
    cases i with
    | zero =>
      simp at hi
      subst hi
      cases ha : aggT P f.type with
      | none => rw [ha] at hx; cases hx
      | some b' =>
        rw [ha] at hx
        injection hx with hx
        injection hx with h1 h2
        injection h2 with h2 h3
        exact ⟨f, rfl, h1, by rw [hz, h2], by rw [ha, h3]⟩
    | succ i => exact mapM_fields fs ys hy i o z b (by simpa using hi)

theorem kd_says {P : Program} {t : TypeId} {k : Kd} (h : kd P t = some k) : KdSays P t k := by
  unfold kd at h
  cases hu : P.underlying t with
  | none => rw [hu] at h; cases h
  | some d =>
    rw [hu] at h
    cases d <;> simp at h
    case int k' => subst h; exact .int _ hu
    case bool => subst h; exact .bool hu
    case string => subst h; exact .str hu
    case slice e => obtain ⟨z, hz, rfl⟩ := h; exact .slice _ _ hu hz
    case array n e =>
      cases hz : szOf P e with
      | none => rw [hz] at h; cases h
      | some z =>
        rw [hz] at h
        cases hb : aggT P e with
        | none => rw [hb] at h; cases h
        | some b => rw [hb] at h; injection h with h; subst h; exact .arr _ _ _ _ hu hz hb
    case struct fs =>
      obtain ⟨l, hl, rfl⟩ := h
      refine .struct fs l hu fun i o z b hi => ?_
      obtain ⟨f, hf, r⟩ := mapM_fields fs.toList l (by simpa using hl) i o z b hi
      exact ⟨f, by simpa using hf, r⟩
    case pointer e => subst h; exact .ptr _ hu
    case map k' e => subst h; exact .map _ _ hu
    all_goals subst h; exact .other _ hu

def byte (b : UInt8) : Value := .int .u8 (b.toNat : Int)
def str (l : List UInt8) : Value := .string ⟨l.toArray⟩

/-- x[i] of a text or an array's value. -/
def idxV (k : Kd) (x i : Value) : Option Value :=
  match k, x, i with
  | .str, .string s, .int _ n => if 0 ≤ n ∧ n < s.size then some (byte (s.data.toList.getD n.toNat 0)) else none
  | .arr len _ 1 false, .agg cs, .int _ n => if 0 ≤ n ∧ n < len then cs[n.toNat]? else none
  | _, _, _ => none
/-- The place of x[i], of a slice or behind an array's pointer. -/
def addrV (k : Kd) (x i : Value) : Option Value :=
  match k, x, i with
  | .slice _ z, .slice (some a) len _, .int _ n => if 0 ≤ n ∧ n < len then some (.pointer (some (a.add (n.toNat * z)))) else none
  | .arr len _ z _, .pointer (some a), .int _ n => if 0 ≤ n ∧ n < len then some (.pointer (some (a.add (n.toNat * z)))) else none
  | _, _, _ => none
def numO (d : Int) : Option Value → Option Int
  | none => some d
  | some (.int _ n) => some n
  | _ => none
/-- x[lo:hi]. -/
def sliV (k : Kd) (x : Value) (lo hi : Option Value) : Option Value :=
  match k, x with
  | .str, .string s => (numO 0 lo).bind fun l => (numO s.size hi).bind fun h => if 0 ≤ l ∧ l ≤ h ∧ h ≤ s.size then some (.string (s.extract l.toNat h.toNat)) else none
  | .slice _ z, .slice a len cap => (numO 0 lo).bind fun l => (numO len hi).bind fun h => if 0 ≤ l ∧ l ≤ h ∧ h ≤ cap then
      some (.slice (if cap = l.toNat then a else a.map (·.add (l.toNat * z))) (h.toNat - l.toNat) (cap - l.toNat)) else none
  | .arr n _ z _, .pointer (some a) => (numO 0 lo).bind fun l => (numO n hi).bind fun h => if 0 ≤ l ∧ l ≤ h ∧ h ≤ n then
      some (.slice (some (if n = l.toNat then a else a.add (l.toNat * z))) (h.toNat - l.toNat) (n - l.toNat)) else none
  | _, _ => none
/-- The place of a field. -/
def fldA (k : Kd) (x : Value) (i : Nat) : Option Value :=
  match k, x with
  | .struct fs, .pointer (some a) => match fs[i]? with
    | some (o, z, _) => if z = 0 then none else some (.pointer (some (a.add o)))
    | none => none
  | _, _ => none
/-- A field of a value. -/
def fldV (k : Kd) (x : Value) (i : Nat) : Option Value :=
  match k, x with
  | .struct fs, .agg cs => match fs[i]? with
    | some (o, z, b) => if b then some (.agg (cs.extract o (o + z))) else cs[o]?
    | none => none
  | _, _ => none
def lenV (k : Kd) (x : Value) : Option Value :=
  match k, x with
  | .str, .string s => some (.int .i64 s.size)
  | .slice _ _, .slice _ n _ => some (.int .i64 n)
  | .arr n _ _ _, _ => some (.int .i64 n)
  | _, _ => none

theorem run_und {P : Program} {t : TypeId} {d : TypeDesc} (h : P.underlying t = some d) (w : World) : (underlying t).run P w = .ok d w := by simp [underlying, h]

theorem run_idxV {P : Program} {t : TypeId} {k : Kd} {x i v : Value} (hk : kd P t = some k) (h : idxV k x i = some v) (w : World) : (Instr.index t x i).run P w = .ok v w := by
  have hs := kd_says hk
  unfold idxV at h
  split at h
  · rename_i s q n
    cases hs with | str hu =>
    split at h
    · rename_i hc
      injection h with h; subst h
      have hlt : n.toNat < s.size := by omega
      have hx : s[n.toNat]? = some s[n.toNat] := getElem?_pos s _ hlt
      simp only [Instr.index, asIntOf, Sem.run_bind, Sem.run_pure, Result.andThen_ok, run_und hu, hc.1, if_true, hx, byte]
      have hlt' : n.toNat < s.data.toList.length := by simpa using hlt
      have : s.data.toList.getD n.toNat 0 = s.data.toList[n.toNat] := by rw [List.getD_eq_getElem?_getD, List.getElem?_eq_getElem hlt']; rfl
      rw [this]; rfl
    · cases h
  · rename_i len e cs q n
    cases hs with | arr _ _ _ _ hu hz hb =>
    split at h
    · rename_i hc
      simp only [Instr.index, asIntOf, Sem.run_bind, Sem.run_pure, Result.andThen_ok, run_und hu, hc, and_self, if_true, part, run_sizeOf hz, run_agg hb, Bool.false_eq_true, if_false, Nat.mul_one, h]
    · cases h
  · cases h

theorem run_addrV {P : Program} {t : TypeId} {k : Kd} {x i v : Value} (hk : kd P t = some k) (h : addrV k x i = some v) (w : World) : (Instr.indexAt t x i).run P w = .ok v w := by
  have hs := kd_says hk
  unfold addrV at h
  split at h
  · rename_i e z a len cap q n
    cases hs with | slice _ _ hu hz =>
    split at h
    · rename_i hc
      injection h with h; subst h
      simp [Instr.indexAt, asIntOf, run_und hu, hc, run_sizeOf hz]
    · cases h
  · rename_i len e z b a q n
    cases hs with | arr _ _ _ _ hu hz hb =>
    split at h
    · rename_i hc
      injection h with h; subst h
      simp [Instr.indexAt, Instr.sureAddr, asIntOf, run_und hu, hc, run_sizeOf hz]
    · cases h
  · cases h

theorem numO_lo {P : Program} {d : Int} {o : Option Value} {n : Int} {y : Nat} {c : BoundsCode} (h : numO d o = some n) (h0 : 0 ≤ n) (h1 : n ≤ y) (w : World) {v : Value} (hv : o = some v) : (Instr.sliceBound v y c).run P w = .ok n.toNat w := by
  subst hv
  unfold numO at h
  split at h
  · rename_i he; cases he
  · rename_i k m he
    injection he with he
    subst he
    injection h with h
    subst h
    simp [Instr.sliceBound, asIntOf, h0, h1]
  · cases h

theorem run_bounds {P : Program} {b : Bool} {len cap : Nat} {lo hi : Option Value} {l h : Int} (hl : numO 0 lo = some l) (hh : numO len hi = some h) (h0 : 0 ≤ l) (h1 : l ≤ h) (h2 : h ≤ cap) (w : World) :
    (Instr.sliceBounds b len cap lo hi none).run P w = .ok (l.toNat, h.toNat, cap) w := by
  unfold Instr.sliceBounds
  cases hi with
  | none =>
    simp only [numO, Option.some.injEq] at hh
    subst hh
    cases lo with
    | none =>
      simp only [numO, Option.some.injEq] at hl
      subst hl
      simp
    | some v =>
      have := fun c => numO_lo (P := P) (c := c) (y := len) hl h0 (by omega) w rfl
      simp [this]
  | some u =>
    have e1 := fun c => numO_lo (P := P) (c := c) (y := cap) hh (by omega) h2 w rfl
    cases lo with
    | none =>
      simp only [numO, Option.some.injEq] at hl
      subst hl
      simp [e1]
    | some v =>
      have e2 := fun c => numO_lo (P := P) (c := c) (y := h.toNat) hl h0 (by omega) w rfl
      simp [e1, e2]

theorem run_sliV {P : Program} {t : TypeId} {k : Kd} {x v : Value} {lo hi : Option Value} (hk : kd P t = some k) (h : sliV k x lo hi = some v) (w : World) : (Instr.sliceAt t x lo hi none).run P w = .ok v w := by
  have hs := kd_says hk
  unfold sliV at h
  split at h
  · rename_i s
    cases hs with | str hu =>
    obtain ⟨l, hl, h⟩ := Option.bind_eq_some_iff.1 h
    obtain ⟨r, hr, h⟩ := Option.bind_eq_some_iff.1 h
    split at h
    · rename_i hc
      injection h with h; subst h
      have hb := run_bounds (P := P) (b := false) (cap := s.size) hl hr hc.1 hc.2.1 hc.2.2 w
      simp [Instr.sliceAt, Instr.slice, run_und hu, hb]
    · cases h
  · rename_i e z a len cap
    cases hs with | slice _ _ hu hz =>
    obtain ⟨l, hl, h⟩ := Option.bind_eq_some_iff.1 h
    obtain ⟨r, hr, h⟩ := Option.bind_eq_some_iff.1 h
    split at h
    · rename_i hc
      injection h with h; subst h
      have hb := run_bounds (P := P) (b := true) (cap := cap) hl hr hc.1 hc.2.1 hc.2.2 w
      simp [Instr.sliceAt, Instr.slice, run_und hu, hb, run_sizeOf hz]
    · cases h
  · rename_i n e z b a
    cases hs with | arr _ _ _ _ hu hz hb =>
    obtain ⟨l, hl, h⟩ := Option.bind_eq_some_iff.1 h
    obtain ⟨r, hr, h⟩ := Option.bind_eq_some_iff.1 h
    split at h
    · rename_i hc
      injection h with h; subst h
      have hb := run_bounds (P := P) (b := false) (cap := n) hl hr hc.1 hc.2.1 hc.2.2 w
      simp [Instr.sliceAt, Instr.sureAddr, run_und hu, hb, run_sizeOf hz]
    · cases h
  · cases h

theorem run_fldA {P : Program} {t : TypeId} {k : Kd} {x v : Value} {i : Nat} (hk : kd P t = some k) (h : fldA k x i = some v) (w : World) : (Instr.fieldAt t x i).run P w = .ok v w := by
  have hs := kd_says hk
  unfold fldA at h
  split at h
  · rename_i fs a
    cases hs with | struct fa l hu hl =>
    split at h
    · rename_i o z b hi
      obtain ⟨f, hf, ho, hz, _⟩ := hl i o z b hi
      split at h
      · cases h
      · rename_i hz0
        injection h with h; subst h
        simp [Instr.fieldAt, Instr.sureAddr, run_und hu, hf, fieldPlace, run_sizeOf hz, hz0, ho]
    · cases h
  · cases h

theorem run_fldV {P : Program} {t : TypeId} {k : Kd} {x v : Value} {i : Nat} (hk : kd P t = some k) (h : fldV k x i = some v) (w : World) : (Instr.field t x i).run P w = .ok v w := by
  have hs := kd_says hk
  unfold fldV at h
  split at h
  · rename_i fs cs
    cases hs with | struct fa l hu hl =>
    split at h
    · rename_i o z b hi
      obtain ⟨f, hf, ho, hz, hb⟩ := hl i o z b hi
      subst ho
      cases b
      · simp only [Bool.false_eq_true, if_false] at h
        simp [Instr.field, run_und hu, hf, part, asAgg, run_agg hb, h]
      · simp only [if_true, Option.some.injEq] at h
        subst h
        simp [Instr.field, run_und hu, hf, part, asAgg, run_agg hb, run_sizeOf hz]
    · cases h
  · cases h

theorem run_lenV {P : Program} {t ty : TypeId} {k : Kd} {x v : Value} (hk : kd P t = some k) (h : lenV k x = some v) (w : World) : (Builtin.len_ #[t] ty #[x]).run P w = .ok v w := by
  have hs := kd_says hk
  unfold lenV at h
  split at h
  · cases hs with | str hu => injection h with h; subst h; simp [Builtin.len_, run_und hu, goInt]
  · cases hs with | slice _ _ hu hz => injection h with h; subst h; simp [Builtin.len_, run_und hu, goInt]
  · cases hs with | arr _ _ _ _ hu hz hb => injection h with h; subst h; simp [Builtin.len_, run_und hu, goInt]
  · cases h

/-- A new block. -/
def hnew (t : TypeId) (cs : Array Value) (h : List Res) (K : Value → List Res → Prop) : Prop := ∀ g, below g h → K (.pointer (some ⟨g, 0, none⟩)) (.cells g t cs :: h)
@[congr] theorem hnew_congr {t : TypeId} {cs cs' : Array Value} {h h' : List Res} (K : Value → List Res → Prop) (e : cs = cs') (e' : h = h') : hnew t cs h K = hnew t cs' h' K := by rw [e, e']
theorem hnew_intro {t : TypeId} {cs : Array Value} {h : List Res} {K : Value → List Res → Prop} (H : ∀ g, below g h → K (.pointer (some ⟨g, 0, none⟩)) (.cells g t cs :: h)) : hnew t cs h K := H

/-- So many cells. -/
def lookN (ad : Addr) (n : Nat) : List Res → Option (Array Value)
  | [] => none
  | .cells g _ cs :: h => if ad.block = g then (if ad.spot = none ∧ ad.off + n ≤ cs.size then some (cs.extract ad.off (ad.off + n)) else none) else lookN ad n h
  | .anchor w0 S :: h => if ad.block < w0.heap.size ∧ ad.block ∉ S then ((List.range n).mapM fun i => w0.cell? (ad.add i)).map List.toArray else lookN ad n h
  | .sem _ _ _ :: h => lookN ad n h

def hload (P : Program) (t : TypeId) (p : Value) (h : List Res) (K : Value → List Res → Prop) : Prop :=
  match p with
  | .pointer (some ad) => wO (ldk P t) fun
    | none => wO (look ad h) fun v => K v h
    | some n => wO (lookN ad n h) fun cs => K (.agg cs) h
  | _ => False

def hsetN (ad : Addr) : List Value → Nat → List Res → Option (List Res)
  | [], _, h => some h
  | v :: vs, i, h => if v.oneCell' = true then (hset (ad.add i) v h).bind (hsetN ad vs (i + 1)) else none

def hstore (P : Program) (t : TypeId) (p v : Value) (h : List Res) (K : List Res → Prop) : Prop :=
  match p with
  | .pointer (some ad) => wO (szOf P t) fun n => v.cells.size = n ∧ wO (hsetN ad v.cells.toList 0 h) K
  | _ => False

def hpick (c a b : Value) (K : Value → Prop) : Prop :=
  match c with
  | .bool x => K (if x then a else b)
  | _ => False
def hnil (x : Value) (K : Value → Prop) : Prop :=
  match x with
  | .pointer (some a) => K (.pointer (some a))
  | .func (.func k) a b => K (.func (.func k) a b)
  | _ => False
def hext (x : Value) (i : Nat) (K : Value → Prop) : Prop :=
  match x with
  | .tuple vs => wO vs[i]? K
  | _ => False

/-- A step that may look at the world and turn it. -/
def hrun (P : Program) (s : Sem Value) (h : List Res) (K : Value → List Res → Prop) : Prop := ∀ w, Sat w h → ∃ v w' h', s.run P w = .ok v w' ∧ Sat w' h' ∧ K v h'
def hrunU (P : Program) (s : Sem Unit) (h : List Res) (K : List Res → Prop) : Prop := ∀ w, Sat w h → ∃ w' h', s.run P w = .ok () w' ∧ Sat w' h' ∧ K h'
@[congr] theorem hrun_congr {P : Program} {s s' : Sem Value} {h h' : List Res} (K : Value → List Res → Prop) (e : s = s') (e' : h = h') : hrun P s h K = hrun P s' h' K := by rw [e, e']
@[congr] theorem hrunU_congr {P : Program} {s s' : Sem Unit} {h h' : List Res} (K : List Res → Prop) (e : s = s') (e' : h = h') : hrunU P s h K = hrunU P s' h' K := by rw [e, e']
/-- A step that only looks. -/
theorem hrun_read {P : Program} {s : Sem Value} {h : List Res} {K : Value → List Res → Prop} (v : Value) (hr : ∀ w, Sat w h → s.run P w = .ok v w) (hk : K v h) : hrun P s h K :=
  fun w hs => ⟨v, w, h, hr w hs, hs, hk⟩

/-- A function can be entered. -/
def enters (P : Program) (k : FuncId) : Prop := ∀ args w, (callFunc k args).run P w = .ok (.enter k args) w
/-- What a call comes to. -/
def Does (P : Program) (k : FuncId) (args : Array Value) (w : World) (φ : Value → World → Prop) : Prop :=
  enters P k ∧ Calls P k args w fun e w' => ∃ v, e = .returned v ∧ φ v w'
def hcall (P : Program) (k : FuncId) (args : Array Value) (h : List Res) (K : Value → List Res → Prop) : Prop :=
  ∀ w, Sat w h → Does P k args w fun v w' => ∃ h', Sat w' h' ∧ K v h'
@[congr] theorem hcall_congr {P : Program} {k : FuncId} {args args' : Array Value} {h h' : List Res} (K : Value → List Res → Prop) (e : args = args') (e' : h = h') : hcall P k args h K = hcall P k args' h' K := by rw [e, e']
theorem Does.mono {P : Program} {k : FuncId} {args : Array Value} {w : World} {φ ψ : Value → World → Prop} (h : Does P k args w φ) (hk : ∀ v w', φ v w' → ψ v w') : Does P k args w ψ :=
  ⟨h.1, h.2.mono fun _ w' ⟨v, e, hv⟩ => ⟨v, e, hk v w' hv⟩⟩
/-- A call of what turns nothing that was there. -/
theorem hcall_of {P : Program} {k : FuncId} {args : Array Value} {h : List Res} {K : Value → List Res → Prop} {φ : Value → Prop}
    (c : ∀ w, Sat w h → Does P k args w fun v w' => φ v ∧ Ext [] w w') (hk : ∀ v, φ v → K v h) : hcall P k args h K :=
  fun w hs => (c w hs).mono fun v _ ⟨hv, hx⟩ => ⟨h, hs.ext hx, hk v hv⟩
theorem hcall_eq {P : Program} {k : FuncId} {args : Array Value} {h : List Res} {K : Value → List Res → Prop} {u : Value}
    (c : ∀ w, Does P k args w fun v w' => v = u ∧ Ext [] w w') (hk : K u h) : hcall P k args h K :=
  hcall_of (φ := fun v => v = u) (fun w _ => c w) fun _ e => by rw [e]; exact hk

def hval (P : Program) (f : Value) (args : Array Value) (h : List Res) (K : Value → List Res → Prop) : Prop :=
  match f with
  | .func (.func k) first cap => hcall P k (first ++ args ++ cap) h K
  | _ => False

def binS (op : BinOp) (t : TypeId) (x y : Operand) (a b : Value) : Sem Value := do eqGuard op t x y a b; binOp op t a b

/-- Whole numbers. -/
def intW (op : BinOp) (k : IntKind) (a b : Int) : Option Value :=
  match op with
  | .add => some (.int k (k.wrap (a + b)))
  | .sub => some (.int k (k.wrap (a - b)))
  | .mul => some (.int k (k.wrap (a * b)))
  | .quo => if b ≠ 0 then some (.int k (k.wrap (a.tdiv b))) else none
  | .rem => if b ≠ 0 then some (.int k (a.tmod b)) else none
  | .and => some (.int k (bits .and k a b))
  | .or => some (.int k (bits .or k a b))
  | .xor => some (.int k (bits .xor k a b))
  | .andNot => some (.int k (bits .andNot k a b))
  | .eql => some (.bool (decide (a = b)))
  | .neq => some (.bool (!decide (a = b)))
  | .lss => some (.bool (decide (a < b)))
  | .leq => some (.bool (decide (a ≤ b)))
  | .gtr => some (.bool (decide (b < a)))
  | .geq => some (.bool (decide (b ≤ a)))
  | _ => none
def intV (op : BinOp) (k : IntKind) (a : Int) (k' : IntKind) (b : Int) : Option Value :=
  match op with
  | .shl => if 0 ≤ b then some (.int k (k.wrap (a * 2 ^ (min b.toNat k.bits)))) else none
  | .shr => if 0 ≤ b then some (.int k (a.fdiv (2 ^ (min b.toNat k.bits)))) else none
  | op => if k = k' then intW op k a b else none
def strV (op : BinOp) (s t : ByteArray) : Option Value :=
  match op with
  | .add => if s.size + t.size ≤ 9223372036854775807 then some (.string (s ++ t)) else none
  | .eql => some (.bool (s.toList == t.toList))
  | .neq => some (.bool (!(s.toList == t.toList)))
  | _ => none
def boolV (op : BinOp) (a b : Bool) : Option Value :=
  match op with
  | .eql => some (.bool (a == b))
  | .neq => some (.bool (!(a == b)))
  | _ => none
/-- Against nil. -/
def nilV (op : BinOp) (k : Kd) (a b : Value) : Option Value :=
  match op, k, a, b with
  | .eql, .ptr _, .pointer p, .pointer none => some (.bool p.isNone)
  | .neq, .ptr _, .pointer p, .pointer none => some (.bool (!p.isNone))
  | .eql, .slice _ _, .slice p _ _, .slice none _ _ => some (.bool p.isNone)
  | .neq, .slice _ _, .slice p _ _, .slice none _ _ => some (.bool (!p.isNone))
  | _, _, _, _ => none
def hbin (P : Program) (op : BinOp) (t : TypeId) (x y : Operand) (a b : Value) (K : Value → Prop) : Prop :=
  match a, b with
  | .int k m, .int k' n => wO (intV op k m k' n) K
  | .string u, .string v => wO (strV op u v) K
  | .bool u, .bool v => wO (kd P t) fun | .bool => wO (boolV op u v) K | _ => False
  | .pointer u, .pointer v => wO (kd P t) fun k => wO (nilV op k (.pointer u) (.pointer v)) K
  | .slice u n c, .slice v n' c' => wO (kd P t) fun k => wO (nilV op k (.slice u n c) (.slice v n' c')) K
  | a, b => wO (pureV P (binS op t x y a b)) K

theorem intV_run {P : Program} {op : BinOp} {t : TypeId} {x y : Operand} {k k' : IntKind} {a b : Int} {v : Value} (h : intV op k a k' b = some v) (w : World) : (binS op t x y (.int k a) (.int k' b)).run P w = .ok v w := by
  have hg : eqGuard op t x y (.int k a) (.int k' b) = pure () := by cases op <;> rfl
  unfold binS
  rw [hg]
  simp only [Sem.run_bind, Sem.run_pure, Result.andThen_ok]
  unfold intV at h
  split at h
  · split at h
    · rename_i h0; injection h with h; subst h
      have h0' : ¬ b < 0 := by omega
      simp [binOp, Op.shift, h0']
    · cases h
  · split at h
    · rename_i h0; injection h with h; subst h
      have h0' : ¬ b < 0 := by omega
      simp [binOp, Op.shift, h0']
    · cases h
  · split at h
    · rename_i h1 h2 hk
      subst hk
      unfold intW at h
      split at h
      case h_4 => split at h
                  · injection h with h; subst h; simp_all [binOp, Op.intDiv]
                  · cases h
      case h_5 => split at h
                  · injection h with h; subst h; simp_all [binOp, Op.intDiv]
                  · cases h
      all_goals first
        | (cases h; done)
        | (injection h with h; subst h; simp only [binOp_add, binOp_sub, binOp_mul, binOp_and, binOp_or, binOp_xor, binOp_andNot, intBits_and, intBits_or, intBits_xor, intBits_andNot, Op.intArith, Sem.run_pure]; done)
        | (injection h with h; subst h; simp only [binOp_eql, binOp_neq, binOp_lss, binOp_leq, binOp_gtr, binOp_geq, Sem.run_pure] <;> rfl)
    · cases h

theorem strV_run {P : Program} {op : BinOp} {t : TypeId} {x y : Operand} {a b : ByteArray} {v : Value} (h : strV op a b = some v) (w : World) : (binS op t x y (.string a) (.string b)).run P w = .ok v w := by
  have hg : eqGuard op t x y (.string a) (.string b) = pure () := by cases op <;> rfl
  unfold binS
  rw [hg]
  simp only [Sem.run_bind, Sem.run_pure, Result.andThen_ok]
  unfold strV at h
  split at h
  · split at h
    · rename_i hc
      injection h with h; subst h
      have hm : IntKind.i64.max = 9223372036854775807 := by decide
      have hc' : ¬ (((a.size + b.size : Nat) : Int) > IntKind.i64.max) := by rw [hm]; omega
      simp only [binOp, Op.stringOp, hc', if_false, Sem.run_pure]
    · cases h
  · injection h with h; subst h; simp [binOp, Op.stringOp]
  · injection h with h; subst h; simp [binOp, Op.stringOp]
  · cases h

theorem run_equal {P : Program} {t : TypeId} {x y : Value} {b : Bool} {w : World} (h : ∀ d, (Op.equalIn (d + 1) t x y).run P w = .ok b w) : (Op.equal t x y).run P w = .ok b w := by
  have := h 9999
  unfold Op.equal Op.maxDepth
  exact this

theorem boolV_run {P : Program} {op : BinOp} {t : TypeId} {x y : Operand} {a b : Bool} {v : Value} (hk : kd P t = some .bool) (h : boolV op a b = some v) (w : World) : (binS op t x y (.bool a) (.bool b)).run P w = .ok v w := by
  have hs := kd_says hk
  cases hs with | bool hu =>
  have hg : eqGuard op t x y (.bool a) (.bool b) = pure () := by cases op <;> rfl
  unfold binS
  rw [hg]
  simp only [Sem.run_bind, Sem.run_pure, Result.andThen_ok]
  have he : (Op.equal t (.bool a) (.bool b)).run P w = .ok (a == b) w := run_equal fun d => by simp [Op.equalIn, run_und hu]
  unfold boolV at h
  split at h
  · injection h with h; subst h
    have : binOp .eql t (.bool a) (.bool b) = (do pure (.bool (← Op.equal t (.bool a) (.bool b)))) := rfl
    rw [this]; simp only [Sem.run_bind, he, Result.andThen_ok, Sem.run_pure]
  · injection h with h; subst h
    have : binOp .neq t (.bool a) (.bool b) = (do pure (.bool (!(← Op.equal t (.bool a) (.bool b))))) := rfl
    rw [this]; simp only [Sem.run_bind, he, Result.andThen_ok, Sem.run_pure]
  · cases h

theorem nilV_run {P : Program} {op : BinOp} {t : TypeId} {x y : Operand} {k : Kd} {a b v : Value} (hk : kd P t = some k) (h : nilV op k a b = some v) (w : World) : (binS op t x y a b).run P w = .ok v w := by
  have hs := kd_says hk
  have hg : ∀ p q, eqGuard op t x y (.pointer p) q = pure () := by intro p q; cases op <;> rfl
  have hg' : ∀ p n c q, eqGuard op t x y (.slice p n c) q = pure () := by intro p n c q; cases op <;> rfl
  unfold binS
  unfold nilV at h
  split at h
  · cases hs with | ptr _ hu =>
    injection h with h; subst h
    rename_i p
    rw [hg]
    have he : (Op.equal t (.pointer p) (.pointer none)).run P w = .ok p.isNone w := run_equal fun d => by cases p <;> simp [Op.equalIn, run_und hu]
    have : binOp .eql t (.pointer p) (.pointer none) = (do pure (.bool (← Op.equal t (.pointer p) (.pointer none)))) := rfl
    rw [this]; simp only [Sem.run_bind, he, Result.andThen_ok, Sem.run_pure]
  · cases hs with | ptr _ hu =>
    injection h with h; subst h
    rename_i p
    rw [hg]
    have he : (Op.equal t (.pointer p) (.pointer none)).run P w = .ok p.isNone w := run_equal fun d => by cases p <;> simp [Op.equalIn, run_und hu]
    have : binOp .neq t (.pointer p) (.pointer none) = (do pure (.bool (!(← Op.equal t (.pointer p) (.pointer none))))) := rfl
    rw [this]; simp only [Sem.run_bind, he, Result.andThen_ok, Sem.run_pure]
  · cases hs with | slice _ _ hu hz =>
    injection h with h; subst h
    rename_i p n c n' c'
    rw [hg']
    have he : (Op.equal t (.slice p n c) (.slice none n' c')).run P w = .ok p.isNone w := run_equal fun d => by cases p <;> simp [Op.equalIn, run_und hu]
    have : binOp .eql t (.slice p n c) (.slice none n' c') = (do pure (.bool (← Op.equal t (.slice p n c) (.slice none n' c')))) := rfl
    rw [this]; simp only [Sem.run_bind, he, Result.andThen_ok, Sem.run_pure]
  · cases hs with | slice _ _ hu hz =>
    injection h with h; subst h
    rename_i p n c n' c'
    rw [hg']
    have he : (Op.equal t (.slice p n c) (.slice none n' c')).run P w = .ok p.isNone w := run_equal fun d => by cases p <;> simp [Op.equalIn, run_und hu]
    have : binOp .neq t (.slice p n c) (.slice none n' c') = (do pure (.bool (!(← Op.equal t (.slice p n c) (.slice none n' c'))))) := rfl
    rw [this]; simp only [Sem.run_bind, he, Result.andThen_ok, Sem.run_pure]
  · cases h

theorem hbin_run {P : Program} {op : BinOp} {t : TypeId} {x y : Operand} {a b : Value} {K : Value → Prop} (h : hbin P op t x y a b K) (w : World) : ∃ v, (binS op t x y a b).run P w = .ok v w ∧ K v := by
  unfold hbin at h
  split at h
  · obtain ⟨v, hv, hk⟩ := h; exact ⟨v, intV_run hv w, hk⟩
  · obtain ⟨v, hv, hk⟩ := h; exact ⟨v, strV_run hv w, hk⟩
  · obtain ⟨k, hk, h⟩ := h
    split at h
    · obtain ⟨v, hv, hk'⟩ := h; exact ⟨v, boolV_run hk hv w, hk'⟩
    · exact h.elim
  · obtain ⟨k, hk, v, hv, hK⟩ := h; exact ⟨v, nilV_run hk hv w, hK⟩
  · obtain ⟨k, hk, v, hv, hK⟩ := h; exact ⟨v, nilV_run hk hv w, hK⟩
  · obtain ⟨v, hv, hk⟩ := h; exact ⟨v, pureV_run hv w, hk⟩

def ikd : Kd → Option IntKind | .int k => some k | _ => none
def convI (k : Option Kd) : Bool := match k with | some (.int _) => true | _ => false
/-- A conversion: of a number it is plain; of bytes and texts it looks at the world. -/
def hconv (P : Program) (s d : TypeId) (x : Value) (h : List Res) (K : Value → List Res → Prop) : Prop :=
  match x with
  | .int _ n => wO (kd P s) fun _ => wO (kd P d) fun k => wO (ikd k) fun k => K (.int k (k.wrap n)) h
  | _ => convI (kd P s) = false ∧ hrun P (convert s d x) h K
theorem conv_run {P : Program} {s d : TypeId} {k0 k : Kd} {q q' : IntKind} {n : Int} (hs : kd P s = some k0) (hd : kd P d = some k) (hk : ikd k = some q) (w : World) : (convert s d (.int q' n)).run P w = .ok (.int q (q.wrap n)) w := by
  have h1 : ∃ u, P.underlying s = some u := by
    unfold kd at hs
    cases hu : P.underlying s with
    | none => rw [hu] at hs; cases hs
    | some u => exact ⟨u, rfl⟩
  obtain ⟨u, hu⟩ := h1
  unfold ikd at hk
  split at hk
  · injection hk with hk; subst hk
    have hs' := kd_says hd
    cases hs' with | int _ hd' =>
    simp [convert, run_und hu, run_und hd', Conv.intToInt]
  · cases hk

def hbuiltin (P : Program) (b : Builtin) (tys : Array TypeId) (ty : TypeId) (args : Array Value) (h : List Res) (K : Value → List Res → Prop) : Prop :=
  match b with
  | .len => match tys.toList, args.toList with
    | [t], [x] => wO (kd P t) fun k => wO (lenV k x) fun v => K v h
    | _, _ => False
  | .cap => wO (pureV P (Builtin.cap_ tys ty args)) fun v => K v h
  | .min => wO (pureV P (Builtin.min_ tys ty args)) fun v => K v h
  | .max => wO (pureV P (Builtin.max_ tys ty args)) fun v => K v h
  | .append => hrun P (Builtin.append_ tys ty args) h K
  | .copy => hrun P (Builtin.copy_ tys ty args) h K
  | .clear => hrun P (Builtin.clear_ tys ty args) h K
  | _ => False

def hop (P : Program) (op : Op) (ty : TypeId) (f : Fr) (h : List Res) (K : Value → List Res → Prop) : Prop :=
  match op with
  | .move x | .assign x => K (ev f x) h
  | .pick c a b => hpick (ev f c) (ev f a) (ev f b) fun v => K v h
  | .alloc t => wO (zeroT P t) fun z => hnew t z.cells h K
  | .box t x => hnew t (ev f x).cells h K
  | .build t parts => wO (pureV P (Instr.build t (parts.map fun (i, x) => (i, ev f x)))) fun v => K v h
  | .buildSlice t n parts => hrun P (Instr.buildSlice t n (parts.map fun (i, x) => (i, ev f x))) h K
  | .load t a => hload P t (ev f a) h K
  | .store t a x => hstore P t (ev f a) (ev f x) h (K undef)
  | .nilCheck x => hnil (ev f x) fun v => K v h
  | .binOp op t x y _ => hbin P op t x y (ev f x) (ev f y) fun v => K v h
  | .unOp op _ x => wO (pureV P (Op.unary op (ev f x))) fun v => K v h
  | .convert s d x => hconv P s d (ev f x) h K
  | .makeFunc fn a b => K (.func fn (a.map (ev f)) (b.map (ev f))) h
  | .makeMap t r => hrun P (Instr.makeMap t (r.map (ev f))) h K
  | .makeSlice t l c => hrun P (Instr.makeSlice t (ev f l) (ev f c)) h K
  | .slice t x lo hi none => wO (kd P t) fun k => wO (sliV k (ev f x) (lo.map (ev f)) (hi.map (ev f))) fun v => K v h
  | .fieldAddr s x i => wO (kd P s) fun k => wO (fldA k (ev f x) i) fun v => K v h
  | .field t x i => wO (kd P t) fun k => wO (fldV k (ev f x) i) fun v => K v h
  | .indexAddr t x i => wO (kd P t) fun k => wO (addrV k (ev f x) (ev f i)) fun v => K v h
  | .index t x i => wO (kd P t) fun k => wO (idxV k (ev f x) (ev f i)) fun v => K v h
  | .extract t i => hext (ev f t) i fun v => K v h
  | .lookup t x i ok => hrun P (Instr.lookup t (ev f x) (ev f i) ok) h K
  | .mapUpdate t m k x => hrunU P (Instr.mapUpdate t (ev f m) (ev f k) (ev f x)) h (K undef)
  | .call { callee := .value fv, args, .. } => hval P (ev f fv) (args.map (ev f)) h K
  | .call { callee := .builtin b, args, argTypes } => hbuiltin P b argTypes ty (args.map (ev f)) h K
  | _ => False

theorem lookN_sound {w : World} {ad : Addr} {n : Nat} {cs : Array Value} : ∀ {h : List Res}, Sat w h → lookN ad n h = some cs →
    cs.size = n ∧ ∀ i, i < n → w.cell? (ad.add i) = cs[i]?
  | .cells g t cs' :: h, ⟨h1, _, _, h4⟩, hl => by
    simp only [lookN] at hl
    split at hl
    · rename_i hb
      split at hl
      · rename_i hc
        obtain ⟨hs, hn⟩ := hc
        injection hl with hl
        subst hl
        refine ⟨by simp; omega, fun i hi => ?_⟩
        have h1' : Row w g t cs' := h1
        have hb' : (ad.add i).block = g := by unfold Addr.add; split <;> exact hb
        have hsp : (ad.add i).spot = none := by unfold Addr.add; split <;> simp_all
        have hoff : (ad.add i).off = ad.off + i := by unfold Addr.add; split <;> simp_all
        rw [cell_cells h1' hb', if_pos hsp, hoff, Array.getElem?_extract]
        rw [if_pos (by omega)]
      · cases hl
    · exact lookN_sound h4 hl
  | .anchor w0 S :: h, ⟨h1, _, _, h4⟩, hl => by
    simp only [lookN] at hl
    split at hl
    · rename_i hb
      cases hm : (List.range n).mapM fun i => w0.cell? (ad.add i) with
      | none => rw [hm] at hl; cases hl
      | some l =>
        rw [hm] at hl; injection hl with hl; subst hl
        have key : ∀ (m : Nat) (s : List Nat) (l : List Value), s.mapM (fun i => w0.cell? (ad.add i)) = some l → l.length = s.length ∧ ∀ i : Nat, ∀ k, s[i]? = some k → w0.cell? (ad.add k) = l[i]? := by
          intro m s
          induction s with
          | nil => intro l h; simp at h; subst h; simp
          | cons a s ih =>
            intro l h
            simp only [List.mapM_cons, Option.bind_eq_bind, Option.bind_eq_some_iff] at h
            obtain ⟨x, hx, ys, hy, e⟩ := h
            have e' : x :: ys = l := by simpa using e
            subst e'
            obtain ⟨i1, i2⟩ := ih ys hy
            refine ⟨by simp [i1], fun i k hk => ?_⟩
            cases i with
            | zero => simp at hk; subst hk; simpa using hx
            | succ i => simpa using i2 i k (by simpa using hk)
        obtain ⟨k1, k2⟩ := key n _ _ hm
        refine ⟨by simpa using k1, fun i hi => ?_⟩
        have hb' : (ad.add i).block = ad.block := by unfold Addr.add; split <;> rfl
        rw [cell_of_block (w := w0) (by rw [hb']; exact h1.block _ hb.1 hb.2)]
        simpa using k2 i i (by simp [hi])
    · exact lookN_sound h4 hl
  | .sem _ _ _ :: h, ⟨_, _, _, h4⟩, hl => lookN_sound h4 (by simpa only [lookN] using hl)

theorem run_loadCellsFrom {P : Program} {w : World} {ad : Addr} : ∀ (cs : List Value) (i : Nat) (acc : Array Value), (∀ j, j < cs.length → w.cell? (ad.add (i + j)) = cs[j]?) →
    (loadCellsFrom ad i cs.length acc).run P w = .ok (acc ++ cs.toArray) w
  | [], i, acc, _ => by simp [loadCellsFrom]
  | x :: cs, i, acc, hc => by
    have h0 : w.cell? (ad.add i) = some x := by simpa using hc 0 (by simp)
    have ih := run_loadCellsFrom (P := P) (w := w) (ad := ad) cs (i + 1) (acc.push x) (fun j hj => by
      rw [show i + 1 + j = i + (j + 1) from by omega]; simpa using hc (j + 1) (by simpa using hj))
    simp only [List.length_cons, loadCellsFrom, Sem.run_bind, run_load, h0, Result.andThen_ok, ih]
    simp

theorem hload_run {P : Program} {t : TypeId} {p : Value} {h : List Res} {K : Value → List Res → Prop} {w : World} (hs : Sat w h) (hl : hload P t p h K) :
    ∃ v, (Instr.loadAt t p).run P w = .ok v w ∧ K v h := by
  unfold hload at hl
  split at hl
  · rename_i ad
    obtain ⟨k, hk, hl⟩ := hl
    have hagg : ∀ b, (match P.underlying t with | some (.struct _) | some (.array _ _) => some true | some _ => some false | none => none) = some b → (isAgg t).run P w = .ok b w := by
      intro b hb
      cases hu : P.underlying t with
      | none => rw [hu] at hb; cases hb
      | some d => rw [hu] at hb; cases d <;> simp at hb <;> subst hb <;> simp [isAgg, underlying, hu]
    cases k with
    | none =>
      obtain ⟨v, hv, hK⟩ := hl
      refine ⟨v, ?_, hK⟩
      have hb : (isAgg t).run P w = .ok false w := hagg false (by
        unfold ldk at hk
        cases hu : P.underlying t with
        | none => rw [hu] at hk; cases hk
        | some d => rw [hu] at hk; cases d <;> simp at hk ⊢ <;> (cases hz : szOf P t <;> rw [hz] at hk <;> simp at hk))
      simp [Instr.loadAt, Instr.sureAddr, loadVar, hb, look_sound hs hv]
    | some n =>
      obtain ⟨cs, hcs, hK⟩ := hl
      obtain ⟨h1, h2⟩ := lookN_sound hs hcs
      refine ⟨_, ?_, hK⟩
      have hb : (isAgg t).run P w = .ok true w := hagg true (by
        unfold ldk at hk
        cases hu : P.underlying t with
        | none => rw [hu] at hk; cases hk
        | some d => rw [hu] at hk; cases d <;> simp at hk ⊢)
      have hz : szOf P t = some n := by
        unfold ldk at hk
        cases hu : P.underlying t with
        | none => rw [hu] at hk; cases hk
        | some d => rw [hu] at hk; cases d <;> simp at hk <;> exact hk
      have hrun := run_loadCellsFrom (P := P) (w := w) (ad := ad) cs.toList 0 #[] (fun j hj => by
        rw [Nat.zero_add, h2 j (by simpa [h1] using hj)]; simp)
      have hlen : cs.toList.length = n := by simpa using h1
      rw [hlen] at hrun
      simp [Instr.loadAt, Instr.sureAddr, loadVar, hb, run_sizeOf hz, loadCells, hrun]
  · exact hl.elim

theorem hsetN_run {P : Program} {ad : Addr} : ∀ (vs : List Value) (i : Nat) (h h' : List Res) (w : World), Sat w h → hsetN ad vs i h = some h' →
    ∃ w', (storeCells ad vs i).run P w = .ok () w' ∧ Sat w' h'
  | [], i, h, h', w, hs, hl => by
    simp only [hsetN, Option.some.injEq] at hl; subst hl
    exact ⟨w, rfl, hs⟩
  | v :: vs, i, h, h', w, hs, hl => by
    simp only [hsetN] at hl
    split at hl
    · rename_i hv
      cases h1 : hset (ad.add i) v h with
      | none => rw [h1] at hl; cases hl
      | some h2 =>
        rw [h1] at hl
        obtain ⟨⟨u, hu⟩, hf, hs2⟩ := hset_sound hs h1
        obtain ⟨w', hr, hs'⟩ := hsetN_run (P := P) vs (i + 1) h2 h' _ hs2 hl
        refine ⟨w', ?_, hs'⟩
        simp only [storeCells, Sem.run_bind, run_store P w _ v .plain hv, hu, hf, Bool.false_eq_true, if_false, Result.andThen_ok, hr]
    · cases hl

theorem hstore_run {P : Program} {t : TypeId} {p v : Value} {h : List Res} {K : List Res → Prop} {w : World} (hs : Sat w h) (hl : hstore P t p v h K) :
    ∃ w' h', (Instr.storeAt t p v).run P w = .ok () w' ∧ Sat w' h' ∧ K h' := by
  unfold hstore at hl
  split at hl
  · rename_i ad
    obtain ⟨n, hn, hsz, h', hh, hK⟩ := hl
    obtain ⟨w', hr, hs'⟩ := hsetN_run (P := P) _ 0 h h' w hs hh
    refine ⟨w', h', ?_, hs', hK⟩
    simp [Instr.storeAt, Instr.sureAddr, storeVar, run_sizeOf hn, hsz, hr]
  · exact hl.elim

/-- The one step, sound. -/
theorem hop_sound {P : Program} {o : Oper} {a : Act} {w : World} {h : List Res} {K : Value → List Res → Prop} {next : Act → World → Prop} {Q : Exit → Act → World → Prop}
    (hs : Sat w h) (hK : ∀ v w' h', Sat w' h' → K v h' → next (a.put o.dst v) w') (hh : hop P o.op o.type (fr a) h K) : o.wp P a w next Q := by
  obtain ⟨dst, op, type, pos, after, guard⟩ := o
  simp only at hh hK
  unfold Oper.wp
  rw [eval_fr]
  have fin : ∀ v w' h', (execOp (ev (fr a)) ⟨dst, op, type, pos, after, guard⟩).run P w = .ok (.value v) w' → Sat w' h' → K v h' →
      Oper.upon P ⟨dst, op, type, pos, after, guard⟩ a next Q ((execOp (ev (fr a)) ⟨dst, op, type, pos, after, guard⟩).run P w) := by
    intro v w' h' hr hs' hk
    rw [hr]; exact hK v w' h' hs' hk
  have finU : ∀ w' h', (execOp (ev (fr a)) ⟨dst, op, type, pos, after, guard⟩).run P w = .ok .skip w' → Sat w' h' → K undef h' →
      Oper.upon P ⟨dst, op, type, pos, after, guard⟩ a next Q ((execOp (ev (fr a)) ⟨dst, op, type, pos, after, guard⟩).run P w) := by
    intro w' h' hr hs' hk
    rw [hr]; exact hK undef w' h' hs' hk
  have pure_ : ∀ s : Sem Value, (execOp (ev (fr a)) ⟨dst, op, type, pos, after, guard⟩) = (do pure (.value (← s))) → wO (pureV P s) (fun v => K v h) →
      Oper.upon P ⟨dst, op, type, pos, after, guard⟩ a next Q ((execOp (ev (fr a)) ⟨dst, op, type, pos, after, guard⟩).run P w) := by
    rintro s he ⟨v, hv, hk⟩
    exact fin v w h (by rw [he]; simp [pureV_run hv w]) hs hk
  have run_ : ∀ s : Sem Value, (execOp (ev (fr a)) ⟨dst, op, type, pos, after, guard⟩) = (do pure (.value (← s))) → hrun P s h K →
      Oper.upon P ⟨dst, op, type, pos, after, guard⟩ a next Q ((execOp (ev (fr a)) ⟨dst, op, type, pos, after, guard⟩).run P w) := by
    rintro s he hr
    obtain ⟨v, w', h', hr, hs', hk⟩ := hr w hs
    exact fin v w' h' (by rw [he]; simp [hr]) hs' hk
  have new_ : ∀ (t : TypeId) (cs : Array Value), (execOp (ev (fr a)) ⟨dst, op, type, pos, after, guard⟩).run P w = .ok (.value (.pointer (some ⟨w.heap.size, 0, none⟩))) (w.alloc (.cells cs t)) → hnew t cs h K →
      Oper.upon P ⟨dst, op, type, pos, after, guard⟩ a next Q ((execOp (ev (fr a)) ⟨dst, op, type, pos, after, guard⟩).run P w) := by
    intro t cs hr hn
    exact fin _ _ _ hr (hs.alloc t cs) (hn _ hs.below)
  cases op with
  | move x => exact fin _ w h rfl hs hh
  | assign x => exact fin _ w h rfl hs hh
  | pick c x y =>
    simp only [hop] at hh
    unfold hpick at hh
    split at hh
    · rename_i b hb
      exact fin _ w h (by simp [execOp, hb, asBool]) hs hh
    · exact hh.elim
  | alloc t =>
    obtain ⟨z, hz, hn⟩ := hh
    refine new_ t z.cells ?_ hn
    simp [execOp, Instr.alloc, run_zero hz, newVar, newRow]
  | box t x =>
    refine new_ t _ ?_ hh
    simp [execOp, Instr.box, newVar, newRow]
  | build t parts => exact pure_ _ rfl hh
  | buildSlice t n parts => exact run_ _ rfl hh
  | load t x =>
    obtain ⟨v, hr, hk⟩ := hload_run (P := P) hs hh
    exact fin v w h (by simp [execOp, hr]) hs hk
  | store t x y =>
    obtain ⟨w', h', hr, hs', hk⟩ := hstore_run (P := P) hs hh
    exact finU w' h' (by simp [execOp, hr]) hs' hk
  | nilCheck x =>
    simp only [hop] at hh
    unfold hnil at hh
    split at hh
    · rename_i b hb; exact fin _ w h (by simp [execOp, hb]) hs hh
    · rename_i b hb; exact fin _ w h (by simp [execOp, hb]) hs hh
    · exact hh.elim
  | binOp op t x y t' =>
    obtain ⟨v, hr, hk⟩ := hbin_run (P := P) hh w
    exact fin v w h (by have : (execOp (ev (fr a)) ⟨dst, .binOp op t x y t', type, pos, after, guard⟩) = (do pure (.value (← binS op t x y (ev (fr a) x) (ev (fr a) y)))) := rfl
                        rw [this]; simp [hr]) hs hk
  | unOp op t x => exact pure_ _ rfl hh
  | convert s d x =>
    simp only [hop] at hh
    unfold hconv at hh
    split at hh
    · rename_i q n hx
      obtain ⟨k0, h0, k, hk, q', hq, hK⟩ := hh
      exact fin _ w h (by simp [execOp, hx, conv_run h0 hk hq w]) hs hK
    · exact run_ _ rfl hh.2
  | makeFunc fn x y => exact fin _ w h rfl hs hh
  | makeMap t r => exact run_ _ rfl hh
  | makeSlice t l c => exact run_ _ rfl hh
  | slice t x lo hi mx =>
    cases mx with
    | some m => exact hh.elim
    | none =>
      obtain ⟨k, hk, v, hv, hK⟩ := hh
      exact fin v w h (by simp [execOp, run_sliV hk hv w]) hs hK
  | fieldAddr s x i =>
    obtain ⟨k, hk, v, hv, hK⟩ := hh
    exact fin v w h (by simp [execOp, run_fldA hk hv w]) hs hK
  | field s x i =>
    obtain ⟨k, hk, v, hv, hK⟩ := hh
    exact fin v w h (by simp [execOp, run_fldV hk hv w]) hs hK
  | indexAddr t x i =>
    obtain ⟨k, hk, v, hv, hK⟩ := hh
    exact fin v w h (by simp [execOp, run_addrV hk hv w]) hs hK
  | index t x i =>
    obtain ⟨k, hk, v, hv, hK⟩ := hh
    exact fin v w h (by simp [execOp, run_idxV hk hv w]) hs hK
  | extract t i =>
    simp only [hop] at hh
    unfold hext at hh
    split at hh
    · rename_i vs hb
      obtain ⟨v, hv, hk⟩ := hh
      exact fin v w h (by simp [execOp, Instr.extract, hb, hv]) hs hk
    · exact hh.elim
  | lookup t x i ok => exact run_ _ rfl hh
  | mapUpdate t m k x =>
    obtain ⟨w', h', hr, hs', hk⟩ := hh w hs
    exact finU w' h' (by simp [execOp, hr]) hs' hk
  | call c =>
    obtain ⟨callee, args, tys⟩ := c
    cases callee with
    | value fv =>
      simp only [hop] at hh
      unfold hval at hh
      split at hh
      · rename_i k first cap hb
        obtain ⟨he, hc⟩ := hh w hs
        have hr : (execOp (ev (fr a)) ⟨dst, .call ⟨.value fv, args, tys⟩, type, pos, after, guard⟩).run P w = .ok (.enter k (first ++ args.map (ev (fr a)) ++ cap)) w := by
          have he' : ∀ args w, (callFunc k args).run P w = .ok (.enter k args) w := he
          simp only [execOp, resolve, hb, Deferred.ofValue, invoke, Sem.run_bind, Sem.run_pure, Result.andThen_ok, he']
        rw [hr]
        refine hc.mono ?_
        rintro e w' ⟨v, rfl, h', hs', hk⟩
        exact hK v w' h' hs' hk
      · exact hh.elim
    | invoke r m => exact hh.elim
    | builtin b =>
      simp only [hop] at hh
      cases b
      case len =>
        simp only [hbuiltin] at hh
        split at hh
        · rename_i t x ht hx
          obtain ⟨k, hk, v, hv, hK⟩ := hh
          have ht' : tys = #[t] := by rw [← Array.toArray_toList (xs := tys), ht]
          have hx' : args.map (ev (fr a)) = #[x] := by rw [← Array.toArray_toList (xs := args.map (ev (fr a))), hx]
          exact fin v w h (by simp [execOp, resolve, invoke, builtin, ht', hx', run_lenV hk hv w]) hs hK
        · exact hh.elim
      all_goals first
        | exact hh.elim
        | exact pure_ _ rfl hh
        | exact run_ _ rfl hh
  | _ => exact hh.elim
end H
end Go.Proofs.Ytldidoaagijnhaa
