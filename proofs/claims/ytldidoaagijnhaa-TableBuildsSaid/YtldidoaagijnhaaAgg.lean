/- Structs as values: built of parts, and told apart. -/
import Derived.Test.YtldidoaagijnhaaGrow
import Derived.Laws.StructEq
namespace Go.Proofs.Ytldidoaagijnhaa
set_option linter.unusedSimpArgs false
set_option linter.unusedVariables false
namespace H
open Go

-- building
def blit (zs : Array Value) : Nat → List Value → Array Value
  | _, [] => zs
  | off, c :: cs => blit (zs.setIfInBounds off c) (off + 1) cs
/-- Parts laid over the zero value. -/
def fillV (fs : List (Nat × Nat × Bool)) (zs : Array Value) : List (Nat × Value) → Option Value
  | [] => some (.agg zs)
  | (i, v) :: r => (fs[i]?).bind fun x => if (cel v).size = x.2.1 ∧ x.1 + x.2.1 ≤ zs.size then fillV fs (blit zs x.1 (cel v).toList) r else none
theorem fillV_nil (fs : List (Nat × Nat × Bool)) (zs : Array Value) : fillV fs zs [] = some (.agg zs) := rfl
theorem fillV_cons (fs : List (Nat × Nat × Bool)) (zs : Array Value) (i : Nat) (v : Value) (r : List (Nat × Value)) : fillV fs zs ((i, v) :: r) = (fs[i]?).bind fun x => if (cel v).size = x.2.1 ∧ x.1 + x.2.1 ≤ zs.size then fillV fs (blit zs x.1 (cel v).toList) r else none := rfl
theorem blit_nil (zs : Array Value) (o : Nat) : blit zs o [] = zs := rfl
theorem blit_cons (zs : Array Value) (o : Nat) (c : Value) (cs : List Value) : blit zs o (c :: cs) = blit (zs.setIfInBounds o c) (o + 1) cs := rfl
theorem blit_foldl (l : List Value) : ∀ (zs : Array Value) (off k : Nat), (l.zipIdx k).foldl (fun cs (c, j) => cs.setIfInBounds (off + j) c) zs = blit zs (off + k) l := by
  induction l with
  | nil => intro zs off k; rfl
  | cons c l ih =>
    intro zs off k
    rw [List.zipIdx_cons, List.foldl_cons, ih]
    rfl
theorem fill_fillV (fs : List (Nat × Nat × Bool)) : ∀ (parts : List (Nat × Value)) (zs : Array Value), (Instr.fill (fun i => (fs[i]?).map fun x => (x.1, x.2.1)) zs parts).map .agg = fillV fs zs parts
  | [], zs => rfl
  | (i, v) :: r, zs => by
    have hb : ∀ o, Array.foldl (fun cs (x : Value × Nat) => cs.setIfInBounds (o + x.2) x.1) zs v.cells.zipIdx = blit zs o v.cells.toList := by
      intro o
      rw [← Array.foldl_toList, Array.toList_zipIdx]
      exact blit_foldl _ _ _ _
    rw [fillV]
    cases hx : fs[i]? with
    | none => unfold Instr.fill; rw [hx]; rfl
    | some x =>
      have e : Instr.fill (fun i => (fs[i]?).map fun x => (x.1, x.2.1)) zs ((i, v) :: r) = if (cel v).size ≠ x.2.1 || x.1 + (cel v).size > zs.size then none else Instr.fill (fun i => (fs[i]?).map fun x => (x.1, x.2.1)) (blit zs x.1 (cel v).toList) r := by
        show Instr.fill _ _ _ = if v.cells.size ≠ x.2.1 || x.1 + v.cells.size > zs.size then none else Instr.fill _ (blit zs x.1 v.cells.toList) r
        rw [← hb]
        conv => lhs; unfold Instr.fill
        rw [hx]
        rfl
      rw [e]
      simp only [Option.bind_some]
      by_cases h1 : (cel v).size = x.2.1
      · by_cases h2 : x.1 + x.2.1 ≤ zs.size
        · have h3 : ¬ (x.1 + x.2.1 > zs.size) := by omega
          rw [if_neg (by simp [h1, h3]), if_pos ⟨h1, h2⟩]
          exact fill_fillV fs r _
        · have h3 : x.1 + x.2.1 > zs.size := by omega
          rw [if_pos (by simp [h1, h3]), if_neg (fun h => h2 h.2)]; rfl
      · rw [if_pos (by simp [h1]), if_neg (fun h => h1 h.1)]; rfl

theorem run_places {P : Program} (w : World) : ∀ (fs : List Field) (l : List (Nat × Nat × Bool)), (fs.mapM fun f => (szOf P f.type).bind fun z => (aggT P f.type).map fun b => (f.offset, z, b)) = some l →
    (fs.mapM fun f => (do pure (f.offset, ← sizeOf f.type) : Sem (Nat × Nat))).run P w = .ok (l.map fun x => (x.1, x.2.1)) w
  | [], l, h => by simp at h; subst h; simp
  | f :: fs, l, h => by
    simp only [List.mapM_cons, Option.bind_eq_bind, Option.bind_eq_some_iff] at h
    obtain ⟨x, ⟨z', hz, hx⟩, ys, hy, e⟩ := h
    have e' : x :: ys = l := by simpa using e
    subst e'
    have ih := run_places w fs ys hy
    cases ha : aggT P f.type with
    | none => rw [ha] at hx; cases hx
    | some b' =>
      rw [ha] at hx
      injection hx with hx
      subst hx
      simp only [List.mapM_cons, Sem.run_bind, run_sizeOf hz, Result.andThen_ok, Sem.run_pure, ih, List.map_cons]

/-- What a build of a struct gives, by its type's kind and zero value. -/
noncomputable def buildK (P : Program) (t : TypeId) (k : Option Kd) (z : Option Value) (ps : Array (Nat × Value)) : Option Value :=
  match k, z with
  | some (.struct fs), some z => match fillV fs z.cells ps.toList with
    | some v => some v
    | none => pureV P (Instr.build t ps)
  | _, _ => pureV P (Instr.build t ps)
theorem pure_build (P : Program) (t : TypeId) (ps : Array (Nat × Value)) : pureV P (Instr.build t ps) = buildK P t (kd P t) (zeroT P t) ps := by
  unfold buildK
  split
  · rename_i fs z hk hz
    split
    · rename_i v hv
      refine pureV_eq fun w => ?_
      unfold kd at hk
      cases hu : P.underlying t with
      | none => rw [hu] at hk; cases hk
      | some d =>
        rw [hu] at hk
        cases d <;> simp at hk
        case array n e => cases h1 : szOf P e <;> rw [h1] at hk <;> simp at hk
        case struct fa =>
          have hp := run_places (P := P) w fa.toList fs (by simpa using hk)
          have hp' : (fa.mapM fun f => (do pure (f.offset, ← sizeOf f.type) : Sem (Nat × Nat))).run P w = .ok (fs.map fun x => (x.1, x.2.1)).toArray w := by
            rw [← Array.toArray_toList (xs := fa), List.mapM_toArray]
            simp only [Sem.run_map, hp, Result.andThen_ok]
          rw [← fill_fillV] at hv
          obtain ⟨cs, hcs, rfl⟩ := Option.map_eq_some_iff.1 hv
          have hfun : (fun i : Nat => (fs.map fun x : Nat × Nat × Bool => (x.1, x.2.1)).toArray[i]?) = fun i => (fs[i]?).map fun x => (x.1, x.2.1) := by funext i; simp
          simp only [Instr.build, Sem.run_bind, run_zero hz, run_und hu, Result.andThen_ok, hp', hfun, hcs, Sem.run_pure]
    · rfl
  · rfl
/-- What such a build gives, as simp goes on with it. -/
noncomputable def buildF (P : Program) (t : TypeId) (o : Option Value) (ps : Array (Nat × Value)) : Option Value := match o with | some v => some v | none => pureV P (Instr.build t ps)
theorem buildF_some (P : Program) (t : TypeId) (v : Value) (ps : Array (Nat × Value)) : buildF P t (some v) ps = some v := rfl
theorem buildK_struct (P : Program) (t : TypeId) (fs : List (Nat × Nat × Bool)) (z : Value) (ps : List (Nat × Value)) : buildK P t (some (.struct fs)) (some z) (List.toArray ps) = buildF P t (fillV fs (cel z) ps) (List.toArray ps) := by
  unfold buildK buildF; rfl

-- telling apart
inductive Leaf where
  | int (k : IntKind)
  | bool
  | str
def leafOf (P : Program) (t : TypeId) : Option Leaf :=
  match P.underlying t with
  | some (.int k) => some (.int k)
  | some .bool => some .bool
  | some .string => some .str
  | _ => none
/-- The leaves of a struct whose fields have one cell each. -/
def leaves (P : Program) (t : TypeId) : Option (List Leaf) :=
  match P.underlying t with
  | some (.struct fs) => if P.stoodInHeld t = false ∧ P.eqGuardType P.depth t = false ∧ (fs.toList.zipIdx.all fun (f, i) => f.name != "_" && f.offset == i) then fs.toList.mapM fun f => leafOf P f.type else none
  | _ => none
def eqL : List Leaf → List Value → List Value → Option Bool
  | [], [], [] => some true
  | .int k :: ls, .int k1 a :: as, .int k2 b :: bs => if k1 = k ∧ k2 = k then (eqL ls as bs).map (decide (a = b) && ·) else none
  | .bool :: ls, .bool a :: as, .bool b :: bs => (eqL ls as bs).map ((a == b) && ·)
  | .str :: ls, .string a :: as, .string b :: bs => (eqL ls as bs).map ((a.toList == b.toList) && ·)
  | _, _, _ => none
theorem eqL_nil : eqL [] [] [] = some true := rfl
theorem eqL_int (k : IntKind) (ls : List Leaf) (as bs : List Value) (a b : Int) : eqL (.int k :: ls) (.int k a :: as) (.int k b :: bs) = (eqL ls as bs).map (decide (a = b) && ·) := by simp [eqL]
theorem eqL_bool (ls : List Leaf) (as bs : List Value) (a b : Bool) : eqL (.bool :: ls) (.bool a :: as) (.bool b :: bs) = (eqL ls as bs).map ((a == b) && ·) := rfl
theorem eqL_str (ls : List Leaf) (as bs : List Value) (a b : List UInt8) : eqL (.str :: ls) (str a :: as) (str b :: bs) = (eqL ls as bs).map (decide (a = b) && ·) := by
  have e : (a == b) = decide (a = b) := Bool.eq_iff_iff.2 (by simp)
  simp only [eqL, str, ByteArray.toList_mk, e]
theorem eqL_byte (ls : List Leaf) (as bs : List Value) (a b : UInt8) : eqL (.int .u8 :: ls) (byte a :: as) (byte b :: bs) = (eqL ls as bs).map (decide (a = b) && ·) := by
  have e : decide ((a.toNat : Int) = (b.toNat : Int)) = decide (a = b) := by
    rw [decide_eq_decide]
    constructor
    · intro h; exact UInt8.toNat_inj.1 (by omega)
    · intro h; rw [h]
  unfold byte; rw [eqL_int, e]

theorem run_leaf {P : Program} (w : World) (d : Nat) {t : TypeId} {l : Leaf} (hl : leafOf P t = some l) {a b : Value} {ls : List Leaf} {as bs : List Value} {r : Bool} (he : eqL (l :: ls) (a :: as) (b :: bs) = some r) :
    ∃ r1 r2, (Op.equalIn (d + 1) t a b).run P w = .ok r1 w ∧ eqL ls as bs = some r2 ∧ r = (r1 && r2) := by
  unfold leafOf at hl
  split at hl
  · rename_i k hu
    injection hl with hl; subst hl
    unfold eqL at he
    split at he
    · rename_i h; cases h
    · rename_i h1 h2 h3
      cases h1; cases h2; cases h3
      split at he
      · rename_i hk
        obtain ⟨rfl, rfl⟩ := hk
        obtain ⟨r2, e2, rfl⟩ := Option.map_eq_some_iff.1 he
        refine ⟨_, r2, run_equalIn_int w d t _ _ _ _ hu, e2, ?_⟩
        congr 1
      · cases he
    · rename_i h1 _ _; cases h1
    · rename_i h1 _ _; cases h1
    · cases he
  · rename_i hu
    injection hl with hl; subst hl
    unfold eqL at he
    split at he
    · rename_i h; cases h
    · rename_i h1 _ _; cases h1
    · rename_i h1 h2 h3
      cases h1; cases h2; cases h3
      obtain ⟨r2, e2, rfl⟩ := Option.map_eq_some_iff.1 he
      exact ⟨_, r2, run_equalIn_bool' w d t _ _ hu, e2, rfl⟩
    · rename_i h1 _ _; cases h1
    · cases he
  · rename_i hu
    injection hl with hl; subst hl
    unfold eqL at he
    split at he
    · rename_i h; cases h
    · rename_i h1 _ _; cases h1
    · rename_i h1 _ _; cases h1
    · rename_i h1 h2 h3
      cases h1; cases h2; cases h3
      obtain ⟨r2, e2, rfl⟩ := Option.map_eq_some_iff.1 he
      exact ⟨_, r2, run_equalIn_string w d t _ _ hu, e2, rfl⟩
    · cases he
  · cases hl
theorem eqL_len : ∀ (ls : List Leaf) (as bs : List Value) (r : Bool), eqL ls as bs = some r → as.length = ls.length ∧ bs.length = ls.length
  | [], as, bs, r, h => by
    unfold eqL at h
    split at h <;> first | exact ⟨rfl, rfl⟩ | contradiction | (cases h; done)
  | l :: ls, as, bs, r, h => by
    unfold eqL at h
    split at h
    · contradiction
    · rename_i e; cases e
      split at h
      · obtain ⟨r2, e2, _⟩ := Option.map_eq_some_iff.1 h
        have := eqL_len _ _ _ _ e2
        simp only [List.length_cons]; omega
      · cases h
    · rename_i e; cases e
      obtain ⟨r2, e2, _⟩ := Option.map_eq_some_iff.1 h
      have := eqL_len _ _ _ _ e2
      simp only [List.length_cons]; omega
    · rename_i e; cases e
      obtain ⟨r2, e2, _⟩ := Option.map_eq_some_iff.1 h
      have := eqL_len _ _ _ _ e2
      simp only [List.length_cons]; omega
    · cases h

theorem leafOf_plain {P : Program} {t : TypeId} {l : Leaf} (h : leafOf P t = some l) : aggT P t = some false := by
  unfold leafOf at h
  unfold aggT
  split at h <;> first | (rename_i hu; rw [hu]) | cases h

theorem run_eqFields {P : Program} (w : World) (d : Nat) : ∀ (fs : List Field) (k : Nat) (ls : List Leaf) (pa pb as bs : List Value) (r : Bool), pa.length = k → pb.length = k → ((fs.zipIdx k).all fun (f, i) => f.name != "_" && f.offset == i) = true →
    (fs.mapM fun f => leafOf P f.type) = some ls → eqL ls as bs = some r → (Op.eqFields (d + 1) (pa ++ as).toArray (pb ++ bs).toArray fs).run P w = .ok r w
  | [], k, ls, pa, pb, as, bs, r, _, _, _, hm, he => by
    have : ls = [] := by simpa using hm.symm
    subst this
    have := eqL_len [] as bs r he
    obtain rfl : as = [] := List.eq_nil_of_length_eq_zero (by simpa using this.1)
    obtain rfl : bs = [] := List.eq_nil_of_length_eq_zero (by simpa using this.2)
    injection he with he; subst he
    rfl
  | f :: fs, k, ls, pa, pb, as, bs, r, ha, hb, hall, hm, he => by
    simp only [List.mapM_cons, Option.bind_eq_bind, Option.bind_eq_some_iff] at hm
    obtain ⟨l, hl, ls', hls, e⟩ := hm
    have e' : l :: ls' = ls := by simpa using e
    subst e'
    have hlen := eqL_len _ _ _ _ he
    obtain ⟨a, as, rfl⟩ : ∃ a l, as = a :: l := by cases as with | nil => simp at hlen | cons a l => exact ⟨a, l, rfl⟩
    obtain ⟨b, bs, rfl⟩ : ∃ a l, bs = a :: l := by cases bs with | nil => simp at hlen | cons a l => exact ⟨a, l, rfl⟩
    obtain ⟨r1, r2, h1, h2, rfl⟩ := run_leaf w d hl he
    rw [List.zipIdx_cons, List.all_cons] at hall
    simp only [Bool.and_eq_true, bne_iff_ne, ne_eq, beq_iff_eq] at hall
    obtain ⟨⟨hn, ho⟩, hall'⟩ := hall
    have ih := run_eqFields w d fs (k + 1) ls' (pa ++ [a]) (pb ++ [b]) as bs r2 (by simp [ha]) (by simp [hb]) (by simpa using hall') hls h2
    have pa' : (part f.type (pa ++ a :: as).toArray f.offset).run P w = .ok a w := by
      have hx : (pa ++ a :: as).toArray[f.offset]? = some a := by rw [ho, ← ha]; simp
      simp [part, run_agg (leafOf_plain hl), hx]
    have pb' : (part f.type (pb ++ b :: bs).toArray f.offset).run P w = .ok b w := by
      have hx : (pb ++ b :: bs).toArray[f.offset]? = some b := by rw [ho, ← hb]; simp
      simp [part, run_agg (leafOf_plain hl), hx]
    unfold Op.eqFields
    rw [if_pos hn]
    simp only [Sem.run_bind, pa', pb', h1, Result.andThen_ok]
    rw [List.append_assoc, List.append_assoc] at ih
    cases r1
    · simp
    · simpa using ih

noncomputable def eqF (P : Program) (op : BinOp) (t : TypeId) (x y : Operand) (as bs : Array Value) (o : Option Bool) : Option Value :=
  match op, o with
  | .eql, some r => some (.bool r)
  | .neq, some r => some (.bool (!r))
  | _, _ => pureV P (binS op t x y (.agg as) (.agg bs))
noncomputable def eqK (P : Program) (op : BinOp) (t : TypeId) (x y : Operand) (as bs : Array Value) (o : Option (List Leaf)) : Option Value :=
  match o with
  | some ls => eqF P op t x y as bs (eqL ls as.toList bs.toList)
  | none => pureV P (binS op t x y (.agg as) (.agg bs))
theorem eqK_some (P : Program) (op : BinOp) (t : TypeId) (x y : Operand) (as bs : List Value) (ls : List Leaf) : eqK P op t x y (List.toArray as) (List.toArray bs) (some ls) = eqF P op t x y (List.toArray as) (List.toArray bs) (eqL ls as bs) := rfl
theorem eqF_eql (P : Program) (t : TypeId) (x y : Operand) (as bs : Array Value) (r : Bool) : eqF P .eql t x y as bs (some r) = some (.bool r) := rfl
theorem eqF_neq (P : Program) (t : TypeId) (x y : Operand) (as bs : Array Value) (r : Bool) : eqF P .neq t x y as bs (some r) = some (.bool (!r)) := rfl

theorem pure_agg_eq (P : Program) (op : BinOp) (t : TypeId) (x y : Operand) (as bs : Array Value) : pureV P (binS op t x y (.agg as) (.agg bs)) = eqK P op t x y as bs (leaves P t) := by
  unfold eqK
  split
  · rename_i ls hl
    unfold eqF
    have key : ∀ r, eqL ls as.toList bs.toList = some r → ∀ w, (eqGuard op t x y (.agg as) (.agg bs)).run P w = .ok () w ∧ (Op.equalIn 10000 t (.agg as) (.agg bs)).run P w = .ok r w := by
      intro r hr w
      unfold leaves at hl
      split at hl
      · rename_i fs hu
        split at hl
        · rename_i hc
          obtain ⟨h1, h2, h3⟩ := hc
          refine ⟨run_eqGuard_agg w op t x y as bs h2, ?_⟩
          have hf : P.fieldsOf t = fs := by simp [Program.fieldsOf, hu]
          rw [run_equalIn_struct w 9999 t as bs (by rw [hf]; exact hu) h1, hf]
          have := run_eqFields w 9998 fs.toList 0 ls [] [] as.toList bs.toList r rfl rfl h3 hl hr
          simpa using this
        · cases hl
      · cases hl
    split
    · rename_i r hr
      refine pureV_eq fun w => ?_
      obtain ⟨k1, k2⟩ := key r hr w
      unfold binS
      simp only [Sem.run_bind, k1, Result.andThen_ok, run_eql_struct, k2]
    · rename_i r hr
      refine pureV_eq fun w => ?_
      obtain ⟨k1, k2⟩ := key r hr w
      unfold binS
      simp only [Sem.run_bind, k1, Result.andThen_ok, run_neq_struct, k2]
    · rfl
  · rfl
theorem ext_lit (x : Value) (l : List Value) (a b : Nat) : (List.toArray (x :: l)).extract a b = List.toArray (((x :: l).take b).drop a) := by
  simp only [List.extract_toArray, List.extract_eq_take_drop]
  rw [List.drop_take]
attribute [go_sem] fillV_nil fillV_cons blit_nil blit_cons pure_build buildF_some buildK_struct eqL_nil eqL_int eqL_bool eqL_str eqL_byte eqK_some eqF_eql eqF_neq pure_agg_eq Bool.and_true ext_lit List.take_succ_cons List.take_zero List.drop_zero List.drop_succ_cons
end H
end Go.Proofs.Ytldidoaagijnhaa
