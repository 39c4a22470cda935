/- A region that draws its order: where its operations do not hinder one another one run in the order of the text serves for all. -/
import Derived.Test.YtldidoaagijnhaaEval
namespace Go.Proofs.Ytldidoaagijnhaa
set_option linter.unusedSimpArgs false
set_option linter.unusedVariables false
namespace H

def temps (xs : List Operand) : List Nat := xs.filterMap fun | .tmp t => some t | _ => none
def readsOf (ops : List Oper) (o : Oper) : List Nat := temps o.op.operands.toList ++ (match o.guard with | some (g, _) => ((ops[g]?).bind (·.dst)).toList | none => [])
def hits (ops : List Oper) (a b : Oper) : Bool :=
  (match a.dst with | some d => (readsOf ops b).contains d || b.dst == some d | none => false) || (match b.dst with | some d => (readsOf ops a).contains d | none => false)
def maskOf (acc : List Nat) (o : Oper) : Nat := o.after.toList.foldl (fun s e => if Region.binds .any e then s ||| (2 ^ e.on ||| acc.getD e.on 0) else s) 0
def masksGo : List Oper → List Nat → List Nat
  | [], acc => acc
  | o :: r, acc => masksGo r (acc ++ [maskOf acc o])
def masks (ops : List Oper) : List Nat := masksGo ops []

/-- The check: edges go back; what hinders one another is ordered; from k on each operation comes behind all ahead of it. -/
def drawOk (k : Nat) (ops : List Oper) : Bool :=
  let m := masks ops
  (ops.zipIdx.all fun (o, i) => o.after.toList.all fun e => !Region.binds .any e || decide (e.on < i)) &&
  (ops.zipIdx.all fun (b, j) => (ops.zipIdx.take j).all fun (a, i) => (!hits ops a b && decide (j < k)) || (m.getD j 0).testBit i)

def Closed (ops : List Oper) (S : Nat → Bool) : Prop := ∀ i o, ops[i]? = some o → S i = true → ∀ e ∈ o.after.toList, Region.binds .any e = true → S e.on = true

theorem mask_bit {acc : List Nat} {j : Nat} : ∀ (es : List Edge) (s : Nat), (es.foldl (fun s e => if Region.binds .any e then s ||| (2 ^ e.on ||| acc.getD e.on 0) else s) s).testBit j = true →
    s.testBit j = true ∨ ∃ e ∈ es, Region.binds .any e = true ∧ (e.on = j ∨ (acc.getD e.on 0).testBit j = true)
  | [], s, h => .inl h
  | e :: es, s, h => by
    rcases mask_bit es _ h with h1 | ⟨e', he, hb, hr⟩
    · dsimp only at h1
      split at h1
      · rename_i hb
        simp only [Nat.testBit_or, Bool.or_eq_true, Nat.testBit_two_pow, decide_eq_true_eq] at h1
        rcases h1 with h1 | h1 | h1
        · exact .inl h1
        · exact .inr ⟨e, List.mem_cons_self .., hb, .inl h1⟩
        · exact .inr ⟨e, List.mem_cons_self .., hb, .inr h1⟩
      · exact .inl h1
    · exact .inr ⟨e', List.mem_cons_of_mem _ he, hb, hr⟩

theorem masksGo_sound {ops : List Oper} {S : Nat → Bool} (hc : Closed ops S) : ∀ (r pre : List Oper) (acc : List Nat), ops = pre ++ r → acc.length = pre.length →
    (∀ i j, (acc.getD i 0).testBit j = true → S i = true → S j = true) → ∀ i j, ((masksGo r acc).getD i 0).testBit j = true → S i = true → S j = true
  | [], _, _, _, _, h => h
  | o :: r, pre, acc, he, hl, h => by
    refine masksGo_sound hc r (pre ++ [o]) (acc ++ [maskOf acc o]) (by simp [he]) (by simp [hl]) ?_
    intro i j hb hi
    simp only [List.getD_eq_getElem?_getD] at hb
    by_cases h1 : i < acc.length
    · rw [List.getElem?_append_left h1] at hb
      exact h i j (by simpa [List.getD_eq_getElem?_getD] using hb) hi
    · rw [List.getElem?_append_right (by omega)] at hb
      by_cases h2 : i = acc.length
      · subst h2
        simp only [Nat.sub_self, List.getElem?_cons_zero, Option.getD_some] at hb
        rcases mask_bit _ _ hb with hz | ⟨e, he', hbd, hr⟩
        · simp at hz
        · have ho : ops[acc.length]? = some o := by rw [he, hl]; simp
          have hs := hc _ o ho hi e he' hbd
          rcases hr with rfl | hr
          · exact hs
          · exact h _ _ hr hs
      · rw [List.getElem?_eq_none (by simp; omega)] at hb
        simp at hb

theorem masks_sound {ops : List Oper} {S : Nat → Bool} (hc : Closed ops S) {i j : Nat} (hb : ((masks ops).getD i 0).testBit j = true) (hi : S i = true) : S j = true :=
  masksGo_sound hc ops [] [] rfl rfl (fun i j h => by simp at h) i j hb hi

theorem zipIdx_mem {ops : List Oper} {i : Nat} {o : Oper} (h : ops[i]? = some o) : (o, i) ∈ ops.zipIdx := by
  rw [List.mem_iff_getElem?]
  exact ⟨i, by simp [List.getElem?_zipIdx, h]⟩
theorem zipIdx_take {ops : List Oper} {i j : Nat} {o : Oper} (h : ops[i]? = some o) (hij : i < j) : (o, i) ∈ ops.zipIdx.take j := by
  rw [List.mem_iff_getElem?]
  exact ⟨i, by rw [List.getElem?_take, if_pos hij]; simp [List.getElem?_zipIdx, h]⟩

theorem drawOk_edge {k : Nat} {ops : List Oper} (h : drawOk k ops = true) {i : Nat} {o : Oper} (ho : ops[i]? = some o) {e : Edge} (he : e ∈ o.after.toList) (hb : Region.binds .any e = true) : e.on < i := by
  unfold drawOk at h
  simp only [Bool.and_eq_true, List.all_eq_true] at h
  have := h.1 (o, i) (zipIdx_mem ho) e he
  simpa [hb] using this
theorem drawOk_hits {k : Nat} {ops : List Oper} (h : drawOk k ops = true) {i j : Nat} {a b : Oper} (ha : ops[i]? = some a) (hb : ops[j]? = some b) (hij : i < j) (hh : hits ops a b = true ∨ k ≤ j) : ((masks ops).getD j 0).testBit i = true := by
  unfold drawOk at h
  simp only [Bool.and_eq_true, List.all_eq_true] at h
  have := h.2 (b, j) (zipIdx_mem hb) (a, i) (zipIdx_take ha hij)
  simp only [Bool.or_eq_true, Bool.and_eq_true, Bool.not_eq_true', decide_eq_true_eq] at this
  rcases this with ⟨h1, h2⟩ | h1
  · rcases hh with hh | hh
    · rw [hh] at h1; cases h1
    · omega
  · exact h1

/-- One thing done: its number, its slot, what it gave. -/
abbrev Done := Nat × Option Nat × Value
def foldS (f : Fr) (l : List Done) (S : Nat → Bool) : Fr := l.foldl (fun f x => if S x.1 then put f x.2.1 x.2.2 else f) f

theorem put_at {f : Fr} {d : Option Nat} {v : Value} {t : Nat} : put f d v t = if d = some t then v else f t := by
  cases d with
  | none => simp [put]
  | some d =>
    simp only [put, upd, Option.some.injEq]
    by_cases h : t = d
    · simp [h]
    · simp [h, Ne.symm h]

theorem foldS_at {t : Nat} {S T : Nat → Bool} : ∀ (l : List Done) (f g : Fr), f t = g t → (∀ x ∈ l, x.2.1 = some t → S x.1 = T x.1) → foldS f l S t = foldS g l T t
  | [], _, _, h, _ => h
  | x :: l, f, g, h, hx => by
    refine foldS_at l _ _ ?_ fun y hy => hx y (List.mem_cons_of_mem _ hy)
    dsimp only
    by_cases hd : x.2.1 = some t
    · rw [hx x (List.mem_cons_self ..) hd]
      split
      · simp [put_at, hd]
      · exact h
    · have : ∀ (b : Bool) (f : Fr), (if b = true then put f x.2.1 x.2.2 else f) t = f t := by
        intro b f
        split
        · rw [put_at, if_neg hd]
        · rfl
      rw [this, this]; exact h

theorem foldS_keep {t : Nat} {S : Nat → Bool} : ∀ (l : List Done) (f : Fr), (∀ x ∈ l, x.2.1 = some t → S x.1 = false) → foldS f l S t = f t
  | [], _, _ => rfl
  | x :: l, f, h => by
    have ih := foldS_keep (t := t) (S := S) l (if S x.1 then put f x.2.1 x.2.2 else f) fun y hy => h y (List.mem_cons_of_mem _ hy)
    refine ih.trans ?_
    split
    · rename_i hs
      rw [put_at]
      split
      · rename_i hd; rw [h x (List.mem_cons_self ..) hd] at hs; cases hs
      · rfl
    · rfl

theorem foldS_add {S : Nat → Bool} {i : Nat} {d : Option Nat} {v : Value} {l1 l2 : List Done} {f : Fr} (hn : ∀ x ∈ l1 ++ l2, x.1 ≠ i) (hlate : ∀ x ∈ l2, S x.1 = true → x.2.1 = d → d = none) :
    foldS f (l1 ++ (i, d, v) :: l2) (fun j => j == i || S j) = put (foldS f (l1 ++ (i, d, v) :: l2) S) d v := by
  funext t
  rw [put_at]
  split
  · rename_i hd
    subst hd
    unfold foldS
    rw [List.foldl_append, List.foldl_cons]
    simp only [beq_self_eq_true, Bool.true_or, if_true]
    have := foldS_keep (t := t) (S := fun j => j == i || S j) l2 (put (l1.foldl (fun f x => if (x.1 == i || S x.1) = true then put f x.2.1 x.2.2 else f) f) (some t) v) (by
      intro x hx hd
      have h1 : ¬ x.1 = i := hn x (by simp [hx])
      cases hs : S x.1 with
      | false => simp [h1]
      | true => exact absurd (hlate x hx hs hd) (by simp))
    unfold foldS at this
    rw [this, put_at, if_pos rfl]
  · rename_i hd
    refine foldS_at _ _ _ rfl ?_
    intro x hx hdx
    rcases List.mem_append.1 hx with hm | hm
    · have h1 : ¬ x.1 = i := hn x (by simp [hm])
      simp [h1]
    · rcases List.mem_cons.1 hm with rfl | hm
      · exact absurd hdx hd
      · have h1 : ¬ x.1 = i := hn x (by simp [hm])
        simp [h1]

theorem ev_same {f g : Fr} {x : Operand} (h : ∀ t, x = .tmp t → f t = g t) : ev f x = ev g x := by
  cases x <;> first | rfl | exact h _ rfl

/-- An operation looks at its operands alone. -/
theorem hop_frame {P : Program} {op : Op} {ty : TypeId} {f g : Fr} {h : List Res} {K : Value → List Res → Prop} (he : ∀ t ∈ temps op.operands.toList, f t = g t) : hop P op ty f h K = hop P op ty g h K := by
  have key : ∀ x ∈ op.operands.toList, ev f x = ev g x := fun x hx => ev_same fun t ht => he t (List.mem_filterMap.2 ⟨x, hx, by rw [ht]⟩)
  have keys : ∀ xs : Array Operand, (∀ x ∈ xs, x ∈ op.operands.toList) → xs.map (ev f) = xs.map (ev g) := fun xs hx => Array.map_congr_left fun x hm => key x (hx x hm)
  have keyo : ∀ x : Option Operand, (∀ y, x = some y → y ∈ op.operands.toList) → x.map (ev f) = x.map (ev g) := fun x hx => by
    cases x with
    | none => rfl
    | some y => exact congrArg some (key y (hx y rfl))
  have keyp : ∀ xs : Array (Nat × Operand), (∀ x ∈ xs, x.2 ∈ op.operands.toList) → (xs.map fun (i, x) => (i, ev f x)) = (xs.map fun (i, x) => (i, ev g x)) := fun xs hx => Array.map_congr_left fun x hm => by
    have := key x.2 (hx x hm)
    obtain ⟨i, y⟩ := x
    exact congrArg (Prod.mk i) this
  cases op
  case move x => simp only [hop]; rw [key x (by simp [Op.operands])]
  case assign x => simp only [hop]; rw [key x (by simp [Op.operands])]
  case pick c a b => simp only [hop]; rw [key c (by simp [Op.operands]), key a (by simp [Op.operands]), key b (by simp [Op.operands])]
  case alloc t => rfl
  case box t x => simp only [hop]; rw [key x (by simp [Op.operands])]
  case build t ps => simp only [hop]; rw [keyp ps (by intro x hx; simp [Op.operands]; exact ⟨x.1, by simpa using hx⟩)]
  case buildSlice t n ps => simp only [hop]; rw [keyp ps (by intro x hx; simp [Op.operands]; exact ⟨x.1, by simpa using hx⟩)]
  case load t x => simp only [hop]; rw [key x (by simp [Op.operands])]
  case store t a x => simp only [hop]; rw [key a (by simp [Op.operands]), key x (by simp [Op.operands])]
  case nilCheck x => simp only [hop]; rw [key x (by simp [Op.operands])]
  case binOp o t x y t' => simp only [hop]; rw [key x (by simp [Op.operands]), key y (by simp [Op.operands])]
  case unOp o t x => simp only [hop]; rw [key x (by simp [Op.operands])]
  case convert s d x => simp only [hop]; rw [key x (by simp [Op.operands])]
  case makeFunc fn a b => simp only [hop]; rw [keys a (by intro x hx; simp [Op.operands, hx]), keys b (by intro x hx; simp [Op.operands, hx])]
  case makeMap t r => simp only [hop]; rw [keyo r (by rintro y rfl; simp [Op.operands])]
  case makeSlice t l c => simp only [hop]; rw [key l (by simp [Op.operands]), key c (by simp [Op.operands])]
  case slice t x lo hi mx =>
    cases mx with
    | some m => rfl
    | none => simp only [hop]; rw [key x (by simp [Op.operands]), keyo lo (by rintro y rfl; simp [Op.operands]), keyo hi (by rintro y rfl; simp [Op.operands])]
  case fieldAddr s x i => simp only [hop]; rw [key x (by simp [Op.operands])]
  case field s x i => simp only [hop]; rw [key x (by simp [Op.operands])]
  case indexAddr t x i => simp only [hop]; rw [key x (by simp [Op.operands]), key i (by simp [Op.operands])]
  case index t x i => simp only [hop]; rw [key x (by simp [Op.operands]), key i (by simp [Op.operands])]
  case extract t i => simp only [hop]; rw [key t (by simp [Op.operands])]
  case lookup t x i ok => simp only [hop]; rw [key x (by simp [Op.operands]), key i (by simp [Op.operands])]
  case mapUpdate t m k x => simp only [hop]; rw [key m (by simp [Op.operands]), key k (by simp [Op.operands]), key x (by simp [Op.operands])]
  case call c =>
    obtain ⟨callee, args, tys⟩ := c
    cases callee with
    | value fv => simp only [hop]; rw [key fv (by simp [Op.operands, Call.operands]), keys args (by intro x hx; simp [Op.operands, Call.operands, hx])]
    | builtin b => simp only [hop]; rw [keys args (by intro x hx; simp [Op.operands, Call.operands, hx])]
    | invoke r m => rfl
  all_goals rfl

/-- What an operation may deliver with no turn of the heap. -/
def Gives (P : Program) (ops : List Oper) (o : Oper) (f : Fr) (h : List Res) (v : Value) : Prop :=
  match o.guard with
  | none => ∀ K : Value → List Res → Prop, K v h → hop P o.op o.type f h K
  | some (j, b) => (gv ops j f = .bool b ∧ ∀ K : Value → List Res → Prop, K v h → hop P o.op o.type f h K) ∨ ((gv ops j f = .bool (!b) ∨ gv ops j f = undef) ∧ v = undef)

theorem gv_frame {ops : List Oper} {o : Oper} {j : Nat} {b : Bool} (hg : o.guard = some (j, b)) {f g : Fr} (he : ∀ t ∈ readsOf ops o, f t = g t) : gv ops j f = gv ops j g := by
  unfold gv
  cases hd : (ops[j]?).bind (·.dst) with
  | none => rfl
  | some d => exact he d (by simp [readsOf, hg, hd])

theorem Gives.frame {P : Program} {ops : List Oper} {o : Oper} {f g : Fr} {h : List Res} {v : Value} (hv : Gives P ops o f h v) (he : ∀ t ∈ readsOf ops o, f t = g t) : Gives P ops o g h v := by
  have hf : ∀ K, hop P o.op o.type f h K = hop P o.op o.type g h K := fun K => hop_frame fun t ht => he t (by simp [readsOf, ht])
  unfold Gives at *
  split
  · rename_i hg
    rw [hg] at hv
    exact fun K hk => hf K ▸ hv K hk
  · rename_i j b hg
    rw [hg] at hv
    rw [← gv_frame hg he]
    rcases hv with ⟨h1, h2⟩ | h1
    · exact .inl ⟨h1, fun K hk => hf K ▸ h2 K hk⟩
    · exact .inr h1

theorem Gives.step {P : Program} {ops : List Oper} {o : Oper} {f : Fr} {h : List Res} {v : Value} (hv : Gives P ops o f h v) {rest : List Oper} {K : Fr → List Res → Prop} (hk : hl P ops rest (put f o.dst v) h K) : hl P ops (o :: rest) f h K := by
  unfold hl
  unfold Gives at hv
  split
  · rename_i hg
    rw [hg] at hv
    exact hv _ hk
  · rename_i j b hg
    rw [hg] at hv
    rcases hv with ⟨h1, h2⟩ | ⟨h1, rfl⟩
    · rw [h1]
      cases b <;> simp only [hguard, Br, if_true, if_false, Bool.false_eq_true] <;> exact h2 _ hk
    · rcases h1 with h1 | h1
      · rw [h1]; cases b <;> simp only [hguard, Br, if_true, if_false, Bool.false_eq_true, Bool.not_true, Bool.not_false] <;> exact hk
      · rw [h1]; exact hk

/-- The run in the order of the text, of operations that turn nothing. -/
inductive Tr (P : Program) (ops : List Oper) (h : List Res) : Nat → List Oper → Fr → List Done → Fr → Prop where
  | nil (n : Nat) (f : Fr) : Tr P ops h n [] f [] f
  | cons {n : Nat} {o : Oper} {rest : List Oper} {f : Fr} {v : Value} {l : List Done} {g : Fr} (hv : Gives P ops o f h v) (hr : Tr P ops h (n + 1) rest (put f o.dst v) l g) : Tr P ops h n (o :: rest) f ((n, o.dst, v) :: l) g

theorem Tr.fold {P : Program} {ops : List Oper} {h : List Res} {n : Nat} {rest : List Oper} {f g : Fr} {l : List Done} (ht : Tr P ops h n rest f l g) : g = foldS f l fun _ => true := by
  induction ht with
  | nil => rfl
  | cons hv hr ih => rw [ih]; rfl
theorem Tr.len {P : Program} {ops : List Oper} {h : List Res} {n : Nat} {rest : List Oper} {f g : Fr} {l : List Done} (ht : Tr P ops h n rest f l g) : l.length = rest.length := by
  induction ht with
  | nil => rfl
  | cons hv hr ih => simp [ih]
/-- What stands at place i. -/
theorem Tr.at_ {P : Program} {ops : List Oper} {h : List Res} {n : Nat} {rest : List Oper} {f g : Fr} {l : List Done} (ht : Tr P ops h n rest f l g) : ∀ i o, rest[i]? = some o →
    ∃ v l1 l2, l = l1 ++ (n + i, o.dst, v) :: l2 ∧ l1.length = i ∧ Gives P ops o (foldS f l1 fun _ => true) h v := by
  induction ht with
  | nil => intro i o hi; simp at hi
  | @cons n o' rest f v l g hv hr ih =>
    intro i o hi
    cases i with
    | zero =>
      simp at hi; subst hi
      exact ⟨v, [], l, by simp, rfl, hv⟩
    | succ i =>
      obtain ⟨v', l1, l2, he, hl, hg⟩ := ih i o (by simpa using hi)
      exact ⟨v', (n, o'.dst, v) :: l1, l2, by rw [he, show n + 1 + i = n + (i + 1) from by omega]; rfl, by simp [hl], hg⟩
theorem Tr.num {P : Program} {ops : List Oper} {h : List Res} {n : Nat} {rest : List Oper} {f g : Fr} {l : List Done} (ht : Tr P ops h n rest f l g) : ∀ i x, l[i]? = some x → x.1 = n + i ∧ ∃ o, rest[i]? = some o ∧ x.2.1 = o.dst := by
  induction ht with
  | nil => intro i x hi; simp at hi
  | @cons n o' rest f v l g hv hr ih =>
    intro i x hi
    cases i with
    | zero => simp at hi; subst hi; exact ⟨by simp, o', by simp, rfl⟩
    | succ i =>
      obtain ⟨h1, h2⟩ := ih i x (by simpa using hi)
      exact ⟨by rw [h1]; omega, by simpa using h2⟩

def lst (listed : Array Bool) (i : Nat) : Bool := listed.getD i false

theorem hop_mono {P : Program} {op : Op} {ty : TypeId} {f : Fr} {h : List Res} {K K' : Value → List Res → Prop} (hk : ∀ v h, K v h → K' v h) (hh : hop P op ty f h K) : hop P op ty f h K' := by
  have mw : ∀ {α : Type} {o : Option α} {A B : α → Prop}, (∀ x, A x → B x) → wO o A → wO o B := fun hab hw => wO_mono hab hw
  have mr : ∀ e, hrun P e h K → hrun P e h K' := fun e hr w hs => let ⟨v, w', h', r, s, k⟩ := hr w hs; ⟨v, w', h', r, s, hk _ _ k⟩
  have mn : ∀ t cs, hnew t cs h K → hnew t cs h K' := fun t cs hn g hg => hk _ _ (hn g hg)
  cases op
  case move x => exact hk _ _ hh
  case assign x => exact hk _ _ hh
  case pick c a b =>
    simp only [hop] at hh ⊢
    unfold hpick at hh ⊢
    split at hh
    · exact hk _ _ hh
    · exact hh.elim
  case alloc t => exact mw (fun z hz => mn _ _ hz) hh
  case box t x => exact mn _ _ hh
  case build t ps => exact mw (fun v hv => hk _ _ hv) hh
  case buildSlice t n ps => exact mr _ hh
  case load t x =>
    simp only [hop] at hh ⊢
    rw [hload_eq] at hh ⊢
    exact mw (fun v hv => hk _ _ hv) hh
  case store t a x =>
    simp only [hop] at hh ⊢
    unfold hstore at hh ⊢
    split at hh
    · exact mw (fun n hn => ⟨hn.1, mw (fun v hv => hk _ _ hv) hn.2⟩) hh
    · exact hh.elim
  case nilCheck x =>
    simp only [hop] at hh ⊢
    unfold hnil at hh ⊢
    split at hh
    · exact hk _ _ hh
    · exact hk _ _ hh
    · exact hh.elim
  case binOp o t x y t' =>
    simp only [hop] at hh ⊢
    unfold hbin at hh ⊢
    split at hh
    · exact mw (fun v hv => hk _ _ hv) hh
    · exact mw (fun v hv => hk _ _ hv) hh
    · obtain ⟨k, e, hr⟩ := hh
      refine ⟨k, e, ?_⟩
      split at hr
      · exact mw (fun v hv => hk _ _ hv) hr
      · exact hr.elim
    · exact mw (fun k hk' => mw (fun v hv => hk _ _ hv) hk') hh
    · exact mw (fun k hk' => mw (fun v hv => hk _ _ hv) hk') hh
    · exact mw (fun v hv => hk _ _ hv) hh
  case unOp o t x => exact mw (fun v hv => hk _ _ hv) hh
  case convert s d x =>
    simp only [hop] at hh ⊢
    unfold hconv at hh ⊢
    split at hh
    · exact mw (fun _ h1 => mw (fun _ h2 => mw (fun _ h3 => hk _ _ h3) h2) h1) hh
    · exact ⟨hh.1, mr _ hh.2⟩
  case makeFunc fn a b => exact hk _ _ hh
  case makeMap t r => exact mr _ hh
  case makeSlice t l c => exact mr _ hh
  case slice t x lo hi mx =>
    cases mx with
    | some m => exact hh.elim
    | none => exact mw (fun k hk' => mw (fun v hv => hk _ _ hv) hk') hh
  case fieldAddr s x i => exact mw (fun k hk' => mw (fun v hv => hk _ _ hv) hk') hh
  case field s x i => exact mw (fun k hk' => mw (fun v hv => hk _ _ hv) hk') hh
  case indexAddr t x i => exact mw (fun k hk' => mw (fun v hv => hk _ _ hv) hk') hh
  case index t x i => exact mw (fun k hk' => mw (fun v hv => hk _ _ hv) hk') hh
  case extract t i =>
    simp only [hop] at hh ⊢
    unfold hext at hh ⊢
    split at hh
    · exact mw (fun v hv => hk _ _ hv) hh
    · exact hh.elim
  case lookup t x i ok => exact mr _ hh
  case mapUpdate t m k x => exact fun w hs => let ⟨w', h', r, s, k⟩ := hh w hs; ⟨w', h', r, s, hk _ _ k⟩
  case call c =>
    obtain ⟨callee, args, tys⟩ := c
    cases callee with
    | value fv =>
      simp only [hop] at hh ⊢
      unfold hval at hh ⊢
      split at hh
      · exact fun w hs => (hh w hs).mono fun v w' ⟨h', s, k⟩ => ⟨h', s, hk _ _ k⟩
      · exact hh.elim
    | invoke r m => exact hh.elim
    | builtin b =>
      simp only [hop] at hh ⊢
      unfold hbuiltin at hh ⊢
      split at hh
      · split at hh
        · exact mw (fun k hk' => mw (fun v hv => hk _ _ hv) hk') hh
        · exact hh.elim
      · exact mw (fun v hv => hk _ _ hv) hh
      · exact mw (fun v hv => hk _ _ hv) hh
      · exact mw (fun v hv => hk _ _ hv) hh
      · exact mr _ hh
      · exact mr _ hh
      · exact mr _ hh
      · exact hh.elim
  all_goals exact hh.elim

theorem hl_mono_rest {P : Program} {ops : List Oper} {o : Oper} {r r' : List Oper} {K : Fr → List Res → Prop} (hr : ∀ f h, hl P ops r f h K → hl P ops r' f h K) {f : Fr} {h : List Res} (hh : hl P ops (o :: r) f h K) : hl P ops (o :: r') f h K := by
  unfold hl at hh ⊢
  split
  · rename_i hg
    rw [hg] at hh
    exact hop_mono (fun v h' hv => hr _ _ hv) hh
  · rename_i j b hg
    rw [hg] at hh
    dsimp only at hh
    unfold hguard at hh ⊢
    split
    · rename_i x hx
      rw [hx] at hh
      dsimp only at hh
      cases b <;> simp only [Bool.false_eq_true, if_false, if_true] at hh ⊢
      · exact Br_mono (fun h1 => hr _ _ h1) (fun h1 => hop_mono (fun v h' hv => hr _ _ hv) h1) hh
      · exact Br_mono (fun h1 => hop_mono (fun v h' hv => hr _ _ hv) h1) (fun h1 => hr _ _ h1) hh
    · rename_i hx
      split at hh
      · rename_i x hx'; exact absurd hx' (hx x)
      · exact hr _ _ hh

/-- The last operations, each behind all: in the order of the text. -/
theorem tail_run {P : Program} {ops : Array Oper} {k : Nat} (hok : drawOk k ops.toList = true) {K : Fr → List Res → Prop} {f : Fr} {h : List Res} : ∀ (fuel m t : Nat) (listed : Array Bool), listed.size = ops.size → m + fuel = ops.size → k ≤ m →
    (∀ i, i < ops.size → listed.getD i true = decide (i < m)) → hl P ops.toList (ops.toList.drop m) f h K → hl P ops.toList ((Region.linearise.go .any ops fuel t listed []).filterMap (ops[·]?)) f h K
  | 0, m, t, listed, _, hm, _, _, hh => by
    simp only [Region.linearise.go, List.reverse_nil, List.filterMap_nil]
    rw [List.drop_eq_nil_of_le (by simp; omega)] at hh
    exact hh
  | fuel + 1, m, t, listed, hsz, hm, hk, hL, hh => by
    have hmlt : m < ops.size := by omega
    have hsome : ops[m]? = some ops[m] := by simp [hmlt]
    have hlistd : ∀ i, i < m → listed.getD i false = true := by
      intro i hi
      have := hL i (by omega)
      simp only [Array.getD_eq_getD_getElem?] at this ⊢
      rw [Array.getElem?_eq_getElem (by omega)] at this ⊢
      simpa [hi] using this
    have hready : ((List.range ops.size).filter fun i => !listed.getD i true && ((ops[i]?).map (·.after.all fun e => !Region.binds .any e || listed.getD e.on false)).getD false) = [m] := by
      have hpred : ∀ i ∈ List.range ops.size, ((!listed.getD i true && ((ops[i]?).map (·.after.all fun e => !Region.binds .any e || listed.getD e.on false)).getD false) = true ↔ i = m) := by
        intro i hi
        have hi : i < ops.size := by simpa using hi
        rw [hL i hi]
        constructor
        · intro hb
          simp only [Bool.and_eq_true, Bool.not_eq_true', decide_eq_false_iff_not] at hb
          obtain ⟨h1, h2⟩ := hb
          -- a later one has m ahead of it
          by_cases hmi : i = m
          · exact hmi
          · exfalso
            have hlt : m < i := by omega
            have hoi : ops.toList[i]? = some ops[i] := by simp [hi]
            have hom : ops.toList[m]? = some ops[m] := by simp [hmlt]
            have hbit := drawOk_hits hok hom hoi hlt (.inr (by omega))
            -- the set of what is listed, and i, is closed but for m
            let S : Nat → Bool := fun j => decide (j < m) || j == i
            have hcl : Closed ops.toList S := by
              intro j o ho hS e he hb
              simp only [S, Bool.or_eq_true, decide_eq_true_eq, beq_iff_eq] at hS
              have hej := drawOk_edge hok ho he hb
              rcases hS with hS | rfl
              · simp only [S, Bool.or_eq_true, decide_eq_true_eq]; exact .inl (by omega)
              · have hoj : ops[j]? = some o := by simpa using ho
                rw [hoj] at h2
                simp only [Option.map_some, Option.getD_some, Array.all_eq_true_iff_forall_mem] at h2
                have := h2 e (by simpa using he)
                simp only [hb, Bool.not_true, Bool.false_or] at this
                have hel : e.on < ops.size := by omega
                have hh2 := hL e.on hel
                simp only [Array.getD_eq_getD_getElem?] at this hh2
                rw [Array.getElem?_eq_getElem (by omega)] at this hh2
                simp only [Option.getD_some] at this hh2
                rw [this] at hh2
                simp only [S, Bool.or_eq_true]
                exact .inl hh2.symm
            have := masks_sound hcl hbit (by simp [S])
            simp only [S, Bool.or_eq_true, decide_eq_true_eq, beq_iff_eq] at this
            omega
        · rintro rfl
          simp only [Nat.lt_irrefl, decide_false, Bool.not_false, Bool.true_and, hsome, Option.map_some, Option.getD_some, Array.all_eq_true_iff_forall_mem, Bool.or_eq_true, Bool.not_eq_true']
          intro e he
          cases hb : Region.binds .any e with
          | false => exact .inl rfl
          | true => exact .inr (hlistd _ (drawOk_edge hok (by rw [Array.getElem?_toList]; exact hsome) (by simpa using he) hb))
      have h1 : ∀ (l : List Nat) (p : Nat → Bool), l.Nodup → m ∈ l → (∀ i ∈ l, (p i = true ↔ i = m)) → l.filter p = [m] := by
        intro l p
        induction l with
        | nil => intro _ h; simp at h
        | cons a l ih =>
          intro hnd hm hp
          by_cases ha : a = m
          · subst ha
            rw [List.filter_cons_of_pos ((hp a (List.mem_cons_self ..)).2 rfl)]
            congr 1
            rw [List.filter_eq_nil_iff]
            intro x hx hpx
            have := (hp x (List.mem_cons_of_mem _ hx)).1 hpx
            subst this
            exact (List.nodup_cons.1 hnd).1 hx
          · rw [List.filter_cons_of_neg (by intro h; exact ha ((hp a (List.mem_cons_self ..)).1 h))]
            exact ih (List.nodup_cons.1 hnd).2 (by rcases List.mem_cons.1 hm with h | h; exact absurd h.symm ha; exact h) fun i hi => hp i (List.mem_cons_of_mem _ hi)
      exact h1 _ _ List.nodup_range (by simp [hmlt]) hpred
    simp only [Region.linearise.go]
    rw [hready]
    simp only [List.length_cons, List.length_nil, Nat.zero_add, Nat.mod_one, List.getElem?_cons_zero, Nat.div_one]
    rw [linearise_go_acc]
    simp only [List.reverse_cons, List.reverse_nil, List.nil_append, List.singleton_append, List.filterMap_cons, hsome]
    have hdrop : ops.toList.drop m = ops[m] :: ops.toList.drop (m + 1) := by rw [List.drop_eq_getElem_cons (by simpa using hmlt)]; simp
    rw [hdrop] at hh
    have ih : ∀ (f : Fr) (h : List Res), hl P ops.toList (ops.toList.drop (m + 1)) f h K → hl P ops.toList ((Region.linearise.go .any ops fuel t (listed.setIfInBounds m true) []).filterMap (ops[·]?)) f h K := by
      intro f h hh
      refine tail_run hok fuel (m + 1) t (listed.setIfInBounds m true) (by simpa using hsz) (by omega) (by omega) ?_ hh
      intro i hi
      have := hL i hi
      simp only [Array.getD_eq_getD_getElem?] at this ⊢
      by_cases him : m = i
      · subst him; simp [hsz, hi]
      · rw [Array.getElem?_setIfInBounds_ne him, this]
        have : i < m ↔ i < m + 1 := by omega
        simp [this]
    exact hl_mono_rest ih hh

/-- All orders, out of one run in the order of the text. -/
theorem draw_run {P : Program} {ops : Array Oper} {k : Nat} (hok : drawOk k ops.toList = true) (hkn : k ≤ ops.size) {K : Fr → List Res → Prop} {f g : Fr} {h : List Res} {l : List Done}
    (htr : Tr P ops.toList h 0 (ops.toList.take k) f l g) (hend : hl P ops.toList (ops.toList.drop k) g h K) : ∀ (fuel t : Nat) (listed : Array Bool), listed.size = ops.size →
    Closed ops.toList (lst listed) → (∀ i, k ≤ i → lst listed i = false) → (((List.range k).filter fun i => !lst listed i).length + (ops.size - k) = fuel) →
    hl P ops.toList ((Region.linearise.go .any ops fuel t listed []).filterMap (ops[·]?)) (foldS f l (lst listed)) h K := by
  have hllen : l.length = k := by rw [htr.len]; simp; omega
  have hlget : ∀ listed : Array Bool, listed.size = ops.size → ∀ i, i < ops.size → listed.getD i true = lst listed i := by
    intro listed hsz i hi
    simp only [lst, Array.getD_eq_getD_getElem?]
    rw [Array.getElem?_eq_getElem (by omega)]; rfl
  intro fuel
  induction fuel with
  | zero =>
    intro t listed hsz hcl hhi hf
    have hk0 : k = ops.size := by omega
    have hall : ∀ i, i < k → lst listed i = true := by
      intro i hi
      have : ((List.range k).filter fun i => !lst listed i) = [] := List.eq_nil_of_length_eq_zero (by omega)
      rw [List.filter_eq_nil_iff] at this
      simpa using this i (by simpa using hi)
    simp only [Region.linearise.go, List.reverse_nil, List.filterMap_nil]
    have hg : foldS f l (lst listed) = g := by
      rw [htr.fold]
      funext s
      refine foldS_at l f f rfl ?_
      intro x hx _
      obtain ⟨i, hi⟩ := List.mem_iff_getElem?.1 hx
      have h1 := (htr.num i x hi).1
      have h2 : i < l.length := (List.getElem?_eq_some_iff.1 hi).1
      rw [h1]
      exact hall _ (by omega)
    rw [hg]
    rw [List.drop_eq_nil_of_le (by simp; omega)] at hend
    exact hend
  | succ fuel ih =>
    intro t listed hsz hcl hhi hf
    by_cases hall : ∀ i, i < k → lst listed i = true
    · -- only the tail is left
      have hg : foldS f l (lst listed) = g := by
        rw [htr.fold]
        funext s
        refine foldS_at l f f rfl ?_
        intro x hx _
        obtain ⟨i, hi⟩ := List.mem_iff_getElem?.1 hx
        have h1 := (htr.num i x hi).1
        have h2 : i < l.length := (List.getElem?_eq_some_iff.1 hi).1
        rw [h1]
        exact hall _ (by omega)
      rw [hg]
      have hz : ((List.range k).filter fun i => !lst listed i).length = 0 := by
        rw [List.length_eq_zero_iff, List.filter_eq_nil_iff]
        intro i hi
        simp [hall i (by simpa using hi)]
      refine tail_run hok (fuel + 1) k t listed hsz (by omega) (Nat.le_refl _) ?_ hend
      intro i hi
      rw [hlget listed hsz i hi]
      by_cases hik : i < k
      · simp [hall i hik, hik]
      · simp [hhi i (by omega), hik]
    · -- something of the first part is left: what is ready is of the first part
      have hex : ∃ i, i < k ∧ lst listed i = false := by
        apply Decidable.byContradiction
        intro hne
        exact hall fun i hi => by
          cases hb : lst listed i with
          | true => rfl
          | false => exact absurd ⟨i, hi, hb⟩ hne
      obtain ⟨i0, hi0, hl0⟩ := hex
      -- what ready means
      have hreadyOf : ∀ i, i ∈ (List.range ops.size).filter (fun i => !listed.getD i true && ((ops[i]?).map (·.after.all fun e => !Region.binds .any e || listed.getD e.on false)).getD false) →
          i < k ∧ lst listed i = false ∧ ∀ o, ops.toList[i]? = some o → ∀ e ∈ o.after.toList, Region.binds .any e = true → lst listed e.on = true := by
        intro i hi
        rw [List.mem_filter, List.mem_range] at hi
        obtain ⟨hlt, hb⟩ := hi
        simp only [Bool.and_eq_true, Bool.not_eq_true'] at hb
        obtain ⟨hb1, hb2⟩ := hb
        rw [hlget listed hsz i hlt] at hb1
        have hpre : ∀ o, ops.toList[i]? = some o → ∀ e ∈ o.after.toList, Region.binds .any e = true → lst listed e.on = true := by
          intro o ho e he hbd
          have ho' : ops[i]? = some o := by simpa using ho
          rw [ho'] at hb2
          simp only [Option.map_some, Option.getD_some, Array.all_eq_true_iff_forall_mem] at hb2
          have := hb2 e (by simpa using he)
          simpa [hbd, lst] using this
        refine ⟨?_, hb1, hpre⟩
        apply Decidable.byContradiction
        intro hik
        -- the tail has everything ahead of it
        have hoi : ops.toList[i]? = some ops[i] := by simp [hlt]
        have ho0 : ops.toList[i0]? = some ops[i0] := by simp [show i0 < ops.size by omega]
        have hbit := drawOk_hits hok ho0 hoi (by omega) (.inr (by omega))
        let S : Nat → Bool := fun j => lst listed j || j == i
        have hclS : Closed ops.toList S := by
          intro j o ho hS e he hbd
          simp only [S, Bool.or_eq_true, beq_iff_eq] at hS ⊢
          rcases hS with hS | rfl
          · exact .inl (hcl j o ho hS e he hbd)
          · exact .inl (hpre o ho e he hbd)
        have := masks_sound hclS hbit (by simp [S])
        simp only [S, Bool.or_eq_true, beq_iff_eq] at this
        rcases this with h1 | h1
        · rw [h1] at hl0; cases hl0
        · omega
      -- something is ready: the first that is not listed
      have hne : ∃ i, i ∈ (List.range ops.size).filter (fun i => !listed.getD i true && ((ops[i]?).map (·.after.all fun e => !Region.binds .any e || listed.getD e.on false)).getD false) := by
        have hmin : ∃ m, lst listed m = false ∧ m < k ∧ ∀ j, j < m → lst listed j = true := by
          have : ∀ n, n ≤ i0 → (∀ j, j < n → lst listed j = true) ∨ ∃ m, lst listed m = false ∧ m < k ∧ ∀ j, j < m → lst listed j = true := by
            intro n
            induction n with
            | zero => intro _; exact .inl fun j hj => absurd hj (by omega)
            | succ n ihn =>
              intro hn
              rcases ihn (by omega) with h1 | h1
              · cases hb : lst listed n with
                | true =>
                  refine .inl ?_
                  intro j hj
                  rcases Nat.lt_succ_iff_lt_or_eq.1 hj with h2 | rfl
                  · exact h1 j h2
                  · exact hb
                | false => exact .inr ⟨n, hb, by omega, h1⟩
              · exact .inr h1
          rcases this i0 (Nat.le_refl _) with h1 | h1
          · exact ⟨i0, hl0, hi0, h1⟩
          · exact h1
        obtain ⟨m, hm0, hmk, hmj⟩ := hmin
        refine ⟨m, ?_⟩
        have hmlt : m < ops.size := by omega
        rw [List.mem_filter, List.mem_range]
        refine ⟨hmlt, ?_⟩
        have hom : ops[m]? = some ops[m] := by simp [hmlt]
        rw [hlget listed hsz m hmlt, hm0]
        simp only [Bool.not_false, Bool.true_and, hom, Option.map_some, Option.getD_some, Array.all_eq_true_iff_forall_mem, Bool.or_eq_true, Bool.not_eq_true']
        intro e he
        cases hbd : Region.binds .any e with
        | false => exact .inl rfl
        | true => exact .inr (hmj _ (drawOk_edge hok (i := m) (o := ops[m]) (by rw [Array.getElem?_toList]; exact hom) (by simpa using he) hbd))
      simp only [Region.linearise.go]
      generalize hrs : (List.range ops.size).filter (fun i => !listed.getD i true && ((ops[i]?).map (·.after.all fun e => !Region.binds .any e || listed.getD e.on false)).getD false) = rs at *
      obtain ⟨r0, hr0⟩ := hne
      have hpos : 0 < rs.length := List.length_pos_of_mem hr0
      have hlt : t % rs.length < rs.length := Nat.mod_lt _ hpos
      rw [List.getElem?_eq_getElem hlt]
      have hmem : rs[t % rs.length] ∈ rs := List.getElem_mem hlt
      generalize rs[t % rs.length] = i at *
      obtain ⟨hik, hil, hpre⟩ := hreadyOf i hmem
      have hilt : i < ops.size := by omega
      have hoi : ops.toList[i]? = some ops[i] := by simp [hilt]
      have hoi' : ops[i]? = some ops[i] := by simp [hilt]
      dsimp only
      rw [linearise_go_acc]
      simp only [List.reverse_cons, List.reverse_nil, List.nil_append, List.singleton_append, List.filterMap_cons, hoi']
      obtain ⟨v, l1, l2, hle, hl1, hgv⟩ := htr.at_ i ops[i] (by rw [List.getElem?_take, if_pos hik]; exact hoi)
      simp only [Nat.zero_add] at hle
      have hnum : ∀ x ∈ l, ∃ o, ops.toList[x.1]? = some o ∧ x.2.1 = o.dst ∧ x.1 < k := by
        intro x hx
        obtain ⟨j, hj⟩ := List.mem_iff_getElem?.1 hx
        obtain ⟨h1, o, h2, h3⟩ := htr.num j x hj
        simp only [Nat.zero_add] at h1
        have hjl : j < l.length := (List.getElem?_eq_some_iff.1 hj).1
        rw [List.getElem?_take] at h2
        split at h2
        · exact ⟨o, by rw [h1]; exact h2, h3, by omega⟩
        · cases h2
      have hpos1 : ∀ x ∈ l1, x.1 < i := by
        intro x hx
        obtain ⟨j, hj⟩ := List.mem_iff_getElem?.1 hx
        have hjl : j < l1.length := (List.getElem?_eq_some_iff.1 hj).1
        have := (htr.num j x (by rw [hle, List.getElem?_append_left hjl]; exact hj)).1
        omega
      have hpos2 : ∀ x ∈ l2, i < x.1 := by
        intro x hx
        obtain ⟨j, hj⟩ := List.mem_iff_getElem?.1 hx
        have := (htr.num (l1.length + 1 + j) x (by rw [hle, List.getElem?_append_right (by omega)]; rw [show l1.length + 1 + j - l1.length = j + 1 from by omega]; simpa using hj)).1
        omega
      -- what is ahead of i is listed; what has i ahead of it is not
      let S : Nat → Bool := fun j => j == i || lst listed j
      have hclS : Closed ops.toList S := by
        intro j o ho hS e he hbd
        simp only [S, Bool.or_eq_true, beq_iff_eq] at hS ⊢
        rcases hS with rfl | hS
        · exact .inr (hpre o ho e he hbd)
        · exact .inr (hcl j o ho hS e he hbd)
      have hahead : ∀ j a, j < i → ops.toList[j]? = some a → hits ops.toList a ops[i] = true → lst listed j = true := by
        intro j a hji ha hh
        have := masks_sound hclS (drawOk_hits hok ha hoi hji (.inl hh)) (by simp [S])
        simp only [S, Bool.or_eq_true, beq_iff_eq] at this
        rcases this with h1 | h1
        · omega
        · exact h1
      have hbehind : ∀ j b, i < j → ops.toList[j]? = some b → hits ops.toList ops[i] b = true → lst listed j = false := by
        intro j b hij hb hh
        cases hlj : lst listed j with
        | false => rfl
        | true =>
          have := masks_sound hcl (drawOk_hits hok hoi hb hij (.inl hh)) hlj
          rw [this] at hil; cases hil
      have hreads : ∀ s ∈ readsOf ops.toList ops[i], foldS f l1 (fun _ => true) s = foldS f l (lst listed) s := by
        intro s hs
        have e1 : foldS f l1 (fun _ => true) s = foldS f l (fun j => decide (j < i)) s := by
          have : foldS f l (fun j => decide (j < i)) = foldS (foldS f l1 fun j => decide (j < i)) ((i, ops[i].dst, v) :: l2) fun j => decide (j < i) := by
            rw [hle]; unfold foldS; rw [List.foldl_append]
          rw [this, foldS_keep (t := s) (S := fun j => decide (j < i)) ((i, ops[i].dst, v) :: l2)]
          · exact foldS_at l1 f f rfl fun x hx _ => (decide_eq_true (hpos1 x hx)).symm
          · intro x hx _
            rcases List.mem_cons.1 hx with rfl | hx
            · simp
            · have := hpos2 x hx; simp; omega
        rw [e1]
        refine foldS_at l f f rfl ?_
        intro x hx hd
        obtain ⟨o, ho, hdo, hxk⟩ := hnum x hx
        have hdst : o.dst = some s := by rw [← hdo]; exact hd
        rcases Nat.lt_trichotomy x.1 i with h1 | h1 | h1
        · have : hits ops.toList o ops[i] = true := by unfold hits; rw [hdst]; simp [hs]
          simp [h1, hahead _ o h1 ho this]
        · rw [h1] at ho
          rw [h1, hil]; simp
        · have : hits ops.toList ops[i] o = true := by
            unfold hits; rw [hdst]; simp only [Bool.or_eq_true]; exact .inr (by simpa using hs)
          rw [hbehind _ o h1 ho this]
          simp; omega
      refine Gives.step (hgv.frame hreads) ?_
      have hadd := foldS_add (S := lst listed) (i := i) (d := ops[i].dst) (v := v) (l1 := l1) (l2 := l2) (f := f) (by
          intro x hx
          rcases List.mem_append.1 hx with h1 | h1
          · have := hpos1 x h1; omega
          · have := hpos2 x h1; omega) (by
          intro x hx hS hd
          obtain ⟨o, ho, hdo, _⟩ := hnum x (by rw [hle]; simp [hx])
          cases hdi : ops[i].dst with
          | none => rfl
          | some s =>
            exfalso
            have hh : hits ops.toList ops[i] o = true := by
              unfold hits; rw [hdi, ← hdo, hd, hdi]; simp
            rw [hbehind _ o (hpos2 x hx) ho hh] at hS; cases hS)
      rw [← hle] at hadd
      rw [← hadd]
      have hlst : (fun j => j == i || lst listed j) = lst (listed.setIfInBounds i true) := by
        funext j
        simp only [lst, Array.getD_eq_getD_getElem?]
        by_cases hji : j = i
        · subst hji; simp [hsz, hilt]
        · rw [Array.getElem?_setIfInBounds_ne (Ne.symm hji)]; simp [hji]
      rw [hlst]
      refine ih (t / rs.length) (listed.setIfInBounds i true) (by simpa using hsz) (hlst ▸ hclS) ?_ ?_
      · intro j hj
        rw [← hlst]
        simp only [Bool.or_eq_false_iff, beq_eq_false_iff_ne]
        exact ⟨by omega, hhi j hj⟩
      · rw [← hlst]
        have hcount : ∀ (r : List Nat), r.Nodup → i ∈ r → (r.filter fun j => !(j == i || lst listed j)).length + 1 = (r.filter fun j => !lst listed j).length := by
          intro r
          induction r with
          | nil => intro _ h; simp at h
          | cons a r ihr =>
            intro hnd hm
            have hnd' := List.nodup_cons.1 hnd
            by_cases hai : a = i
            · subst hai
              rw [List.filter_cons_of_neg (by simp), List.filter_cons_of_pos (by simp [hil])]
              simp only [List.length_cons, Nat.add_right_cancel_iff]
              congr 1
              apply List.filter_congr
              intro x hx
              have : ¬ x = a := fun e => hnd'.1 (e ▸ hx)
              simp [this]
            · have hm' : i ∈ r := by
                rcases List.mem_cons.1 hm with h | h
                · exact absurd h.symm hai
                · exact h
              have := ihr hnd'.2 hm'
              by_cases hla : lst listed a = true
              · rw [List.filter_cons_of_neg (by simp [hla]), List.filter_cons_of_neg (by simp [hla])]; exact this
              · have hla' : lst listed a = false := by simpa using hla
                rw [List.filter_cons_of_pos (by simp [hla', hai]), List.filter_cons_of_pos (by simp [hla'])]
                simp only [List.length_cons]; omega
        have h5 := hcount (List.range k) List.nodup_range (by simpa using hik)
        show ((List.range k).filter fun j => !(j == i || lst listed j)).length + (ops.size - k) = fuel
        omega

theorem lst_start (n i : Nat) : lst (Array.replicate n false) i = false := by
  simp only [lst, Array.getD_eq_getD_getElem?, Array.getElem?_replicate]
  split <;> rfl

/-- A region that draws, by one run. -/
theorem RDraw_of {P : Program} {ops : List Oper} {s : List Kn} {f g : Fr} {h : List Res} {Q : Exit → Fr → List Res → Prop} {l : List Done} (k : Nat) (hm : P.follows .mixedOrders = true) (hok : drawOk k ops = true) (hkn : decide (k ≤ ops.length) = true)
    (htr : Tr P ops h 0 (ops.take k) f l g) (hend : RL P ops (ops.drop k) s g h Q) : RDraw P (List.toArray ops) s f h Q := by
  intro t
  unfold Region.schedule
  rw [hm]
  simp only [Bool.true_or, if_true]
  unfold Region.linearise
  have h0 : foldS f l (lst (Array.replicate ops.toArray.size false)) = f := by
    funext s
    exact foldS_keep l f fun x _ _ => lst_start _ _
  have h6 : hl P ops.toArray.toList (ops.toArray.toList.drop k) g h (cont P s Q .normal) := by
    simpa using (show hl P ops (ops.drop k) g h (cont P s Q .normal) from hend)
  have := draw_run (P := P) (ops := ops.toArray) (k := k) (by simpa using hok) (by simpa using of_decide_eq_true hkn) (K := cont P s Q .normal) (f := f) (g := g) (h := h) (l := l) (by simpa using htr) h6
    ops.toArray.size t (Array.replicate ops.toArray.size false) (by simp) (fun i o _ hS => by rw [lst_start] at hS; cases hS) (fun i _ => lst_start _ _) (by
      have : ((List.range k).filter fun i => !lst (Array.replicate ops.toArray.size false) i) = List.range k := by
        rw [List.filter_eq_self]; intro i _; rw [lst_start]; rfl
      rw [this]
      have := of_decide_eq_true hkn
      simp; omega)
  rw [h0] at this
  exact this

/-- That run, and what comes behind it. -/
def To (P : Program) (ops : List Oper) (h : List Res) (n : Nat) (rest : List Oper) (f : Fr) (C : Fr → Prop) : Prop := ∃ l g, Tr P ops h n rest f l g ∧ C g
theorem RDraw_to {P : Program} {ops : List Oper} {s : List Kn} {f : Fr} {h : List Res} {Q : Exit → Fr → List Res → Prop} (k : Nat) (hm : P.follows .mixedOrders = true) (hok : drawOk k ops = true) (hkn : decide (k ≤ ops.length) = true)
    (ht : To P ops h 0 (ops.take k) f fun g => RL P ops (ops.drop k) s g h Q) : RDraw P (List.toArray ops) s f h Q := by
  obtain ⟨l, g, htr, hend⟩ := ht
  exact RDraw_of k hm hok hkn htr hend
theorem To_nil {P : Program} {ops : List Oper} {h : List Res} {n : Nat} {f : Fr} {C : Fr → Prop} (hc : C f) : To P ops h n [] f C := ⟨_, _, .nil n f, hc⟩
/-- One step of that run: what the walk makes of the operation, with nothing behind it. -/
theorem Tr_step {P : Program} {ops : List Oper} {h : List Res} {n : Nat} {d : Option Nat} {op : Op} {ty : TypeId} {pos : String} {aft : Array Edge} {rest : List Oper} {f : Fr} {v : Value} {C : Fr → Prop}
    (hv : ∀ Q : Exit → Fr → List Res → Prop, Q .normal (upd f 0 v) h → RO P op ty ⟨some 0, [], [], []⟩ f h Q) (hr : To P ops h (n + 1) rest (put f d v) C) : To P ops h n (⟨d, op, ty, pos, aft, none⟩ :: rest) f C := by
  obtain ⟨l, g, hr, hc⟩ := hr
  refine ⟨_, _, .cons (o := ⟨d, op, ty, pos, aft, none⟩) (fun K hk => ?_) hr, hc⟩
  have := hv (fun _ f' h' => K (f' 0) h') (by simpa [upd] using hk)
  have he : (fun v h' => RV P ⟨some 0, [], [], []⟩ v f h' fun _ f' h' => K (f' 0) h') = K := by
    funext v h'
    show K (upd f 0 v 0) h' = K v h'
    simp [upd]
  unfold RO at this
  rw [he] at this
  exact this
theorem Tr_guard {P : Program} {ops : List Oper} {h : List Res} {n : Nat} {d : Option Nat} {op : Op} {ty : TypeId} {pos : String} {aft : Array Edge} {j : Nat} {b : Bool} {rest : List Oper} {f : Fr} {v : Value} {C : Fr → Prop}
    (hg : gv ops j f = .bool b) (hv : ∀ Q : Exit → Fr → List Res → Prop, Q .normal (upd f 0 v) h → RO P op ty ⟨some 0, [], [], []⟩ f h Q) (hr : To P ops h (n + 1) rest (put f d v) C) : To P ops h n (⟨d, op, ty, pos, aft, some (j, b)⟩ :: rest) f C := by
  obtain ⟨l, g, hr, hc⟩ := hr
  refine ⟨_, _, .cons (o := ⟨d, op, ty, pos, aft, some (j, b)⟩) (.inl ⟨hg, fun K hk => ?_⟩) hr, hc⟩
  have := hv (fun _ f' h' => K (f' 0) h') (by simpa [upd] using hk)
  have he : (fun v h' => RV P ⟨some 0, [], [], []⟩ v f h' fun _ f' h' => K (f' 0) h') = K := by
    funext v h'
    show K (upd f 0 v 0) h' = K v h'
    simp [upd]
  unfold RO at this
  rw [he] at this
  exact this
theorem Tr_skip {P : Program} {ops : List Oper} {h : List Res} {n : Nat} {d : Option Nat} {op : Op} {ty : TypeId} {pos : String} {aft : Array Edge} {j : Nat} {b : Bool} {rest : List Oper} {f : Fr} {C : Fr → Prop}
    (hg : gv ops j f = .bool (!b) ∨ gv ops j f = undef) (hr : To P ops h (n + 1) rest (put f d undef) C) : To P ops h n (⟨d, op, ty, pos, aft, some (j, b)⟩ :: rest) f C := by
  obtain ⟨l, g, hr, hc⟩ := hr
  exact ⟨_, _, .cons (o := ⟨d, op, ty, pos, aft, some (j, b)⟩) (.inr ⟨hg, rfl⟩) hr, hc⟩
end H
end Go.Proofs.Ytldidoaagijnhaa
