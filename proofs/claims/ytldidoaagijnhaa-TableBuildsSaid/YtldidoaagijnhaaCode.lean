/- My walk, whole bodies: regions, tests, blocks, loops; and a function's contract out of its body. -/
import Derived.Test.YtldidoaagijnhaaWalk
namespace Go.Proofs.Ytldidoaagijnhaa
set_option linter.unusedSimpArgs false
set_option linter.unusedVariables false
namespace H

/-- The value in an operation's slot (for a guard). -/
def gv (ops : List Oper) (j : Nat) (f : Fr) : Value := match (ops[j]?).bind (·.dst) with | some d => f d | none => undef
def hguard (v : Value) (want : Bool) (A B : Prop) : Prop :=
  match v with
  | .bool b => Br b (if want then A else B) (if want then B else A)
  | _ => B
@[congr] theorem hguard_congr {v v' : Value} {want : Bool} (A B : Prop) (h : v = v') : hguard v want A B = hguard v' want A B := by rw [h]
theorem hguard_t (b : Bool) (A B : Prop) : hguard (.bool b) true A B = Br b A B := rfl
theorem hguard_f (b : Bool) (A B : Prop) : hguard (.bool b) false A B = Br b B A := rfl
theorem hguard_u (want : Bool) (A B : Prop) : hguard undef want A B = B := rfl

def hl (P : Program) (ops : List Oper) : List Oper → Fr → List Res → (Fr → List Res → Prop) → Prop
  | [], f, h, K => K f h
  | o :: rest, f, h, K =>
    match o.guard with
    | none => hop P o.op o.type f h fun v h' => hl P ops rest (put f o.dst v) h' K
    | some (j, b) => hguard (gv ops j f) b (hop P o.op o.type f h fun v h' => hl P ops rest (put f o.dst v) h' K) (hl P ops rest (put f o.dst undef) h K)

def lwf (n : Nat) (l : List Oper) : Bool := l.all fun o => match o.dst with | some d => decide (d < n) | none => true
def cwf (n : Nat) : Code → Bool
  | .region _ ops _ => lwf n ops.toList
  | .seq a b => cwf n a && cwf n b
  | .cond _ a b => cwf n a && cwf n b
  | .block _ c => cwf n c
  | .loop c => cwf n c
  | .scope c => cwf n c
  | _ => true

/-- The frame's reading. -/
def Ok (n : Nat) (a : Act) : Prop := a.tmps.size = n ∧ a.defers = []
def lift (n : Nat) (Q : Exit → Fr → List Res → Prop) : Exit → Act → World → Prop := fun e a w => Ok n a ∧ ∃ h, Sat w h ∧ Q e (fr a) h

theorem gv_wanted {ops : List Oper} {a : Act} {o : Oper} {j : Nat} {b : Bool} (hg : o.guard = some (j, b)) :
    Region.wanted o (yielded ops.toArray a.tmps) = (match gv ops j (fr a) with | .bool x => x == b | _ => false) := by
  unfold Region.wanted yielded gv
  rw [hg]
  simp only [List.getElem?_toArray]
  cases (ops[j]?).bind (·.dst) with
  | none => simp [undef]
  | some d =>
    simp only [Option.bind_some, fr, Array.getD_eq_getD_getElem?]
    cases a.tmps[d]? with
    | none => simp [undef]
    | some v => cases v <;> simp

theorem hl_sound {P : Program} {ops : List Oper} {n : Nat} {Q : Exit → Act → World → Prop} {K : Fr → List Res → Prop}
    (hK : ∀ a w h, Ok n a → Sat w h → K (fr a) h → Q .normal a w) : ∀ (l : List Oper), lwf n l = true → ∀ (a : Act) (w : World) (h : List Res), Ok n a → Sat w h →
    hl P ops l (fr a) h K → wpList P ops.toArray Q l a w
  | [], _, a, w, h, ha, hs, hh => hK a w h ha hs hh
  | o :: l, hwf, a, w, h, ha, hs, hh => by
    have hwf' : lwf n l = true := by unfold lwf at hwf ⊢; simp only [List.all_cons, Bool.and_eq_true] at hwf; exact hwf.2
    have hd : ∀ k, o.dst = some k → k < a.tmps.size := by
      intro k hk
      unfold lwf at hwf
      simp only [List.all_cons, Bool.and_eq_true] at hwf
      have := hwf.1
      rw [hk] at this
      rw [ha.1]; simpa using this
    have next : ∀ v w' h', Sat w' h' → hl P ops l (put (fr a) o.dst v) h' K → wpList P ops.toArray Q l (a.put o.dst v) w' := by
      intro v w' h' hs' hv
      refine hl_sound hK l hwf' (a.put o.dst v) w' h' ⟨by rw [put_size]; exact ha.1, by rw [put_defers]; exact ha.2⟩ hs' ?_
      rw [fr_put a o.dst v hd]; exact hv
    have run_ : hop P o.op o.type (fr a) h (fun v h' => hl P ops l (put (fr a) o.dst v) h' K) → Region.wanted o (yielded ops.toArray a.tmps) = true → wpList P ops.toArray Q (o :: l) a w := by
      intro hr hw
      unfold wpList
      rw [if_pos hw]
      exact .inl (hop_sound hs next hr)
    have skip_ : hl P ops l (put (fr a) o.dst undef) h K → Region.wanted o (yielded ops.toArray a.tmps) = false → wpList P ops.toArray Q (o :: l) a w := by
      intro hr hw
      unfold wpList
      rw [if_neg (by rw [hw]; simp)]
      exact next undef w h hs hr
    unfold hl at hh
    split at hh
    · rename_i hg
      exact run_ hh (by unfold Region.wanted; rw [hg])
    · rename_i j b hg
      have hwd := gv_wanted (ops := ops) (a := a) hg
      unfold hguard at hh
      split at hh
      · rename_i x hx
        rw [hx] at hwd
        cases x <;> cases b <;> simp [Br] at hh hwd
        · exact run_ hh hwd
        · exact skip_ hh hwd
        · exact skip_ hh hwd
        · exact run_ hh hwd
      · rename_i hx
        refine skip_ hh ?_
        rw [hwd]
        split
        · rename_i y hy; exact absurd hy (hx y)
        · rfl

def gthen (K : Fr → List Res → Prop) (Q : Exit → Fr → List Res → Prop) : Exit → Fr → List Res → Prop
  | .normal => K
  | e => Q e
def gblock (id : Nat) (Q : Exit → Fr → List Res → Prop) : Exit → Fr → List Res → Prop
  | .exit id', f, h => if id' = id then Q .normal f h else Q (.exit id') f h
  | e, f, h => Q e f h
def gscope (Q : Exit → Fr → List Res → Prop) : Exit → Fr → List Res → Prop
  | .goto _, _, _ => False
  | e, f, h => Q e f h
def hif (c : Value) (A B : Prop) : Prop :=
  match c with
  | .bool b => Br b A B
  | _ => False
@[congr] theorem hif_congr {v v' : Value} (A B : Prop) (h : v = v') : hif v A B = hif v' A B := by rw [h]
/-- A loop: what holds at each round's head, and a measure. -/
def hloop (R : Fr → List Res → (Exit → Fr → List Res → Prop) → Prop) (f : Fr) (h : List Res) (Q : Exit → Fr → List Res → Prop) : Prop :=
  ∃ (I : Fr → List Res → Prop) (μ : Fr → List Res → Nat), (∀ w, Sat w h → ∃ h0, Sat w h0 ∧ I f h0) ∧ ∀ f h, I f h →
    R f h (gthen (fun f' h' => ∀ w, Sat w h' → ∃ h'', Sat w h'' ∧ I f' h'' ∧ μ f' h'' < μ f h) Q)
/-- A region that draws its order: right at each. -/
def hdraw (P : Program) (ops : Array Oper) (f : Fr) (h : List Res) (K : Fr → List Res → Prop) : Prop :=
  ∀ t, hl P ops.toList ((Region.schedule (P.follows .mixedOrders) ops t).filterMap (ops[·]?)) f h K
@[congr] theorem hdraw_congr {P : Program} {ops : Array Oper} {f f' : Fr} {h h' : List Res} (K : Fr → List Res → Prop) (e : f = f') (e' : h = h') : hdraw P ops f h K = hdraw P ops f' h' K := by rw [e, e']

def hc (P : Program) : Code → Fr → List Res → (Exit → Fr → List Res → Prop) → Prop
  | .skip, f, h, Q => Q .normal f h
  | .region _ ops false, f, h, Q => hl P ops.toList ops.toList f h (Q .normal)
  | .region _ ops true, f, h, Q => hdraw P ops f h (Q .normal)
  | .seq a b, f, h, Q => hc P a f h (gthen (fun f' h' => hc P b f' h' Q) Q)
  | .cond c a b, f, h, Q => hif (ev f c) (hc P a f h Q) (hc P b f h Q)
  | .block id c, f, h, Q => hc P c f h (gblock id Q)
  | .loop c, f, h, Q => hloop (hc P c) f h Q
  | .exit id, f, h, Q => Q (.exit id) f h
  | .scope c, f, h, Q => hc P c f h (gscope Q)
  | .label _, f, h, Q => Q .normal f h
  | .ret, f, h, Q => Q .ret f h
  | _, _, _, _ => False
@[congr] theorem hloop_congr {R : Fr → List Res → (Exit → Fr → List Res → Prop) → Prop} {f f' : Fr} {h h' : List Res} (Q : Exit → Fr → List Res → Prop) (e : f = f') (e' : h = h') : hloop R f h Q = hloop R f' h' Q := by rw [e, e']

theorem wpOps_list {P : Program} {ops : Array Oper} {Q : Exit → Act → World → Prop} : ∀ (l : List Nat) (a : Act) (w : World),
    wpList P ops Q (l.filterMap (ops[·]?)) a w → wpOps P ops Q l a w
  | [], a, w, h => h
  | i :: l, a, w, h => by
    have ih : ∀ a w, wpList P ops Q (l.filterMap (ops[·]?)) a w → wpOps P ops Q l a w := wpOps_list l
    unfold wpOps
    cases ho : ops[i]? with
    | none => simp only [List.filterMap_cons, ho] at h ⊢; exact ih a w h
    | some o =>
      simp only [List.filterMap_cons, ho] at h ⊢
      unfold wpList at h
      split
      · rename_i hw
        rw [if_pos hw] at h
        exact h.imp (Oper.wp_mono ih) id
      · rename_i hw
        rw [if_neg hw] at h
        exact ih _ _ h

theorem lwf_filterMap {n : Nat} {ops : Array Oper} (h : lwf n ops.toList = true) (l : List Nat) : lwf n (l.filterMap (ops[·]?)) = true := by
  unfold lwf at *
  rw [List.all_eq_true] at *
  intro o ho
  obtain ⟨i, _, hi⟩ := List.mem_filterMap.1 ho
  exact h o (Array.mem_toList_iff.2 (Array.mem_of_getElem? hi))

theorem hc_sound {P : Program} {n : Nat} : ∀ (c : Code), cwf n c = true → ∀ (Q : Exit → Fr → List Res → Prop) (Q' : Exit → Act → World → Prop), (∀ e a w, lift n Q e a w → Q' e a w) →
    ∀ (a : Act) (w : World) (h : List Res), Ok n a → Sat w h → hc P c (fr a) h Q → c.wp P Q' a w
  | .skip, _, Q, Q', hq, a, w, h, ha, hs, hh => wp_skip (hq _ _ _ ⟨ha, h, hs, hh⟩)
  | .region id ops false, hwf, Q, Q', hq, a, w, h, ha, hs, hh => by
    refine wp_region_list ?_
    have := hl_sound (P := P) (ops := ops.toList) (n := n) (Q := Q') (K := Q .normal) (fun a w h ha hs hk => hq _ _ _ ⟨ha, h, hs, hk⟩) ops.toList hwf a w h ha hs (by simpa [hc] using hh)
    simpa using this
  | .region id ops true, hwf, Q, Q', hq, a, w, h, ha, hs, hh => by
    refine wp_region_draw fun t => wpOps_list _ _ _ ?_
    have hd : Sat { w with drawn := w.drawn + 1 } h := hs.ext (Ext.drew w)
    have := hl_sound (P := P) (ops := ops.toList) (n := n) (Q := Q') (K := Q .normal) (fun a w h ha hs hk => hq _ _ _ ⟨ha, h, hs, hk⟩) _ (lwf_filterMap hwf _) a _ h ha hd (hh t)
    simpa using this
  | .seq x y, hwf, Q, Q', hq, a, w, h, ha, hs, hh => by
    simp only [cwf, Bool.and_eq_true] at hwf
    refine wp_seq (hc_sound x hwf.1 _ _ ?_ a w h ha hs hh)
    rintro e a w ⟨ha, h, hs, hk⟩
    cases e with
    | normal => exact hc_sound y hwf.2 Q Q' hq a w h ha hs hk
    | _ => exact hq _ _ _ ⟨ha, h, hs, hk⟩
  | .cond c x y, hwf, Q, Q', hq, a, w, h, ha, hs, hh => by
    simp only [cwf, Bool.and_eq_true] at hwf
    simp only [hc] at hh
    unfold hif at hh
    split at hh
    · rename_i b hb
      refine wp_cond (t := b) (by rw [ev_fr]; exact hb) ?_
      cases b
      · exact hc_sound y hwf.2 Q Q' hq a w h ha hs hh
      · exact hc_sound x hwf.1 Q Q' hq a w h ha hs hh
    · exact hh.elim
  | .block id c, hwf, Q, Q', hq, a, w, h, ha, hs, hh => by
    refine wp_block (hc_sound c hwf _ _ ?_ a w h ha hs hh)
    rintro e a w ⟨ha, h, hs, hk⟩
    cases e with
    | exit id' =>
      simp only [gblock] at hk
      simp only [Exit.inBlock]
      split
      · rename_i he; rw [if_pos he] at hk; exact hq _ _ _ ⟨ha, h, hs, hk⟩
      · rename_i he; rw [if_neg he] at hk; exact hq _ _ _ ⟨ha, h, hs, hk⟩
    | _ => exact hq _ _ _ ⟨ha, h, hs, hk⟩
  | .loop c, hwf, Q, Q', hq, a, w, h, ha, hs, hh => by
    obtain ⟨I, μ, h0, hr⟩ := hh
    intro b k cs
    have key : ∀ m a w, (∃ h, Ok n a ∧ Sat w h ∧ I (fr a) h ∧ μ (fr a) h = m) →
        ∃ e a' w', Q' e a' w' ∧ Arrives P (lone (b.at a (.code c :: .inLoop c :: k)) cs w) b k cs e a' w' := by
      intro m
      induction m using Nat.strongRecOn with
      | _ m ih =>
        rintro a w ⟨h, ha, hs, hI, hm⟩
        obtain ⟨e, a₁, w₁, hq₁, harr⟩ := hc_sound c hwf _ _ (fun e a w hl => hl) a w h ha hs (hr _ _ hI) b (.inLoop c :: k) cs
        obtain ⟨ha₁, h₁, hs₁, hk₁⟩ := hq₁
        cases e with
        | normal =>
          obtain ⟨h₂, hs₂, hI₂, hlt⟩ := hk₁ w₁ hs₁
          obtain ⟨e₂, a₂, w₂, hq₂, harr₂⟩ := ih _ (hm ▸ hlt) a₁ w₁ ⟨h₂, ha₁, hs₂, hI₂, rfl⟩
          exact ⟨e₂, a₂, w₂, hq₂, .of_steps (Steps.trans harr (.one step_inLoop)) harr₂⟩
        | exit id => exact ⟨_, a₁, w₁, hq _ _ _ ⟨ha₁, h₁, hs₁, hk₁⟩, .pass (x := .inLoop c) rfl (fun _ _ => .inl (by simp)) harr⟩
        | goto l => exact ⟨_, a₁, w₁, hq _ _ _ ⟨ha₁, h₁, hs₁, hk₁⟩, .pass (x := .inLoop c) rfl (fun _ _ => .inl (by simp)) harr⟩
        | ret => exact ⟨_, a₁, w₁, hq _ _ _ ⟨ha₁, h₁, hs₁, hk₁⟩, .pass (x := .inLoop c) rfl (fun _ _ => .inl (by simp)) harr⟩
        | panic ch => exact ⟨_, a₁, w₁, hq _ _ _ ⟨ha₁, h₁, hs₁, hk₁⟩, .pass (x := .inLoop c) rfl (fun _ _ => .inl (by simp)) harr⟩
        | outgrown => exact ⟨_, a₁, w₁, hq _ _ _ ⟨ha₁, h₁, hs₁, hk₁⟩, .pass (x := .inLoop c) rfl (fun _ _ => .inl (by simp)) harr⟩
    obtain ⟨h0', hs0, hi0⟩ := h0 w hs
    obtain ⟨e, a', w', hq', harr⟩ := key _ a w ⟨h0', ha, hs0, hi0, rfl⟩
    exact ⟨e, a', w', hq', .of_steps (.one step_loop) harr⟩
  | .exit id, _, Q, Q', hq, a, w, h, ha, hs, hh => wp_exit (hq _ _ _ ⟨ha, h, hs, hh⟩)
  | .scope c, hwf, Q, Q', hq, a, w, h, ha, hs, hh => by
    refine wp_scope_straight (hc_sound c hwf _ _ ?_ a w h ha hs hh)
    rintro e a w ⟨ha, h, hs, hk⟩
    cases e with
    | goto l => exact hk.elim
    | _ => exact hq _ _ _ ⟨ha, h, hs, hk⟩
  | .label l, _, Q, Q', hq, a, w, h, ha, hs, hh => wp_label (hq _ _ _ ⟨ha, h, hs, hh⟩)
  | .ret, _, Q, Q', hq, a, w, h, ha, hs, hh => wp_ret (hq _ _ _ ⟨ha, h, hs, hh⟩)
  | .rangeFunc .., _, _, _, _, _, _, _, _, _, hh => hh.elim
  | .goto _, _, _, _, _, _, _, _, _, _, hh => hh.elim
  | .refuse _, _, _, _, _, _, _, _, _, _, hh => hh.elim

/-- The slots at a function's beginning. -/
def init (args : List Value) : Fr := fun t => args.getD t undef

/-- What a function hands back, at its end. -/
def hres (P : Program) : List ResultVar → Fr → List Res → (List Value → Prop) → Prop
  | [], _, _, K => K []
  | .tmp t :: r, f, h, K => hres P r f h fun vs => K (f t :: vs)
  | .cell a t :: r, f, h, K => hload P t (f a) h fun v _ => hres P r f h fun vs => K (v :: vs)
def oneOf (vs : List Value) : Value := match vs with | [v] => v | _ => .tuple vs.toArray
theorem oneOf_eq (vs : List Value) : (if h : vs.toArray.size = 1 then vs.toArray[0] else Value.tuple vs.toArray) = oneOf vs := by
  match vs with
  | [] => rfl
  | [v] => rfl
  | a :: b :: l => simp [oneOf]
/-- The end of a function. -/
def hend (P : Program) (rs : List ResultVar) (K : Value → List Res → Prop) : Exit → Fr → List Res → Prop
  | .normal, f, h => hres P rs f h fun vs => K (oneOf vs) h
  | .ret, f, h => hres P rs f h fun vs => K (oneOf vs) h
  | _, _, _ => False

theorem hres_mono {P : Program} {K K' : List Value → Prop} (hk : ∀ vs, K vs → K' vs) {f : Fr} {h : List Res} : ∀ {rs : List ResultVar}, hres P rs f h K → hres P rs f h K'
  | [], hh => hk _ hh
  | .tmp t :: r, hh => by
    have hh : hres P r f h fun vs => K (f t :: vs) := hh
    exact hres_mono (K := fun vs => K (f t :: vs)) (K' := fun vs => K' (f t :: vs)) (fun vs hv => hk _ hv) hh
  | .cell a t :: r, hh => by
    simp only [hres] at hh ⊢
    unfold hload at hh ⊢
    split at hh
    · rename_i ad hp
      obtain ⟨k, e, hl⟩ := hh
      refine ⟨k, e, ?_⟩
      cases k with
      | none => obtain ⟨v, e, hv⟩ := hl; exact ⟨v, e, hres_mono (fun vs hv => hk _ hv) hv⟩
      | some n => obtain ⟨v, e, hv⟩ := hl; exact ⟨v, e, hres_mono (fun vs hv => hk _ hv) hv⟩
    · exact hh.elim

def resOf (tmps : Array Value) : ResultVar → Sem Value
  | .tmp t => pure (tmps.getD t undef)
  | .cell x t => do loadVar t (← asAddr (tmps.getD x undef))
theorem hres_run {P : Program} {a : Act} {w : World} {h : List Res} (hs : Sat w h) : ∀ (rs : List ResultVar) (K : List Value → Prop), hres P rs (fr a) h K →
    ∃ vs : List Value, (rs.mapM (resOf a.tmps)).run P w = .ok vs w ∧ K vs
  | [], K, hh => ⟨[], by simp, hh⟩
  | .tmp t :: r, K, hh => by
    obtain ⟨vs, hr, hk⟩ := hres_run hs r _ hh
    exact ⟨_, by simp only [List.mapM_cons, resOf, Sem.run_bind, Sem.run_pure, Result.andThen_ok, hr]; rfl, hk⟩
  | .cell x t :: r, K, hh => by
    obtain ⟨v, hl, hh'⟩ := hload_run (P := P) hs hh
    obtain ⟨vs, hr, hk⟩ := hres_run hs r _ hh'
    refine ⟨v :: vs, ?_, hk⟩
    have hp : ∃ ad, a.tmps.getD x undef = .pointer (some ad) := by
      have hh2 : hload P t (fr a x) h fun v _ => hres P r (fr a) h fun vs => K (v :: vs) := hh
      unfold hload at hh2
      split at hh2
      · rename_i ad he; exact ⟨ad, he⟩
      · exact hh2.elim
    obtain ⟨ad, hp⟩ := hp
    have hl' : (loadVar t ad).run P w = .ok v w := by
      have : (Instr.loadAt t (fr a x)).run P w = .ok v w := hl
      rw [show fr a x = .pointer (some ad) from hp] at this
      simpa [Instr.loadAt, Instr.sureAddr] using this
    simp only [List.mapM_cons, resOf, Sem.run_bind, hp, asAddr, Sem.run_pure, Result.andThen_ok, hl', hr]

/-- A function's contract, out of its body. -/
theorem fn_of {P : Program} {k : FuncId} {fn : Func} {c : Code} {args : List Value} {w : World} {h : List Res} {φ : Value → World → Prop} {rs : List ResultVar}
    (hf : P.funcs[k]? = some fn) (hb : fn.body = some c) (hwf : cwf fn.ntmps c = true) (hn : args.length ≤ fn.ntmps) (hrs : fn.results.toList = rs) (he : enters P k)
    (hs : Sat w h) (hh : hc P c (init args) h (hend P rs fun v h' => ∀ w', Sat w' h' → φ v w')) : Does P k args.toArray w φ := by
  refine ⟨he, calls_of_wp hf hb ?_⟩
  have hok : Ok fn.ntmps { tmps := args.toArray ++ Array.replicate (fn.ntmps - args.toArray.size) undef, defers := [] } := ⟨by simp; omega, rfl⟩
  have hfr : fr { tmps := args.toArray ++ Array.replicate (fn.ntmps - args.toArray.size) undef, defers := [] } = init args := by
    funext t
    simp only [fr, init, Array.getD_eq_getD_getElem?, List.getD_eq_getElem?_getD]
    by_cases ht : t < args.length
    · rw [Array.getElem?_append_left (by simpa using ht)]; simp
    · rw [Array.getElem?_append_right (by simpa using ht)]
      rw [List.getElem?_eq_none (by omega)]
      simp only [Array.getElem?_replicate]
      split <;> rfl
  refine hc_sound c hwf _ _ ?_ _ w h hok hs (hfr ▸ hh)
  have fin : ∀ (a : Act) (w : World) (h' : List Res), Ok fn.ntmps a → Sat w h' → (hres P rs (fr a) h' fun vs => ∀ w', Sat w' h' → φ (oneOf vs) w') →
      a.defers = [] ∧ ∃ v, (results fn a.tmps).run P w = .ok v w ∧ ∃ u, Ending.returned v = .returned u ∧ φ u w := by
    intro a w h' ha hs' hk
    obtain ⟨vs, hr', hk'⟩ := hres_run hs' rs _ hk
    refine ⟨ha.2, oneOf vs, ?_, oneOf vs, rfl, hk' w hs'⟩
    unfold results
    rw [← Array.toArray_toList (xs := fn.results), hrs, List.mapM_toArray]
    simp only [Sem.run_bind, Sem.run_map]
    have : ∀ (f g : ResultVar → Sem Value), f = g → (rs.mapM f).run P w = (rs.mapM g).run P w := fun f g e => by rw [e]
    rw [this _ (resOf a.tmps) (funext fun r => by cases r <;> rfl), hr']
    simp only [Result.andThen_ok, Sem.run_pure, Result.ok.injEq, and_true]
    exact oneOf_eq vs
  rintro e a w ⟨ha, h', hs', hk⟩
  cases e with
  | normal => exact fin a w h' ha hs' hk
  | ret => exact fin a w h' ha hs' hk
  | _ => exact hk.elim
end H
end Go.Proofs.Ytldidoaagijnhaa
