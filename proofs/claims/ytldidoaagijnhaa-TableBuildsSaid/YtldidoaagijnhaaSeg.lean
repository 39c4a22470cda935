/- Regions that draw their order, part by part: a cut where all behind it comes behind all ahead of it (but for what only moves values). -/
import Derived.Test.YtldidoaagijnhaaDraw
namespace Go.Proofs.Ytldidoaagijnhaa
set_option linter.unusedSimpArgs false
set_option linter.unusedVariables false
namespace H

structure Seg (ops : List Oper) (L σ : List Nat) : Prop where
  nodup : σ.Nodup
  mem : ∀ i, i ∈ σ ↔ i ∈ L
  ord : ∀ pre i suf, σ = pre ++ i :: suf → ∀ j, j ∈ L → ((masks ops).getD i 0).testBit j = true → j ∈ pre

/-- Edges go back; nothing comes behind itself. -/
def edgesOk (ops : List Oper) : Bool :=
  (ops.zipIdx.all fun (o, i) => o.after.toList.all fun e => !Region.binds .any e || decide (e.on < i)) && ((masks ops).zipIdx.all fun (x, i) => !x.testBit i)
theorem edgesOk_edge {ops : List Oper} (h : edgesOk ops = true) {i : Nat} {o : Oper} (ho : ops[i]? = some o) {e : Edge} (he : e ∈ o.after.toList) (hb : Region.binds .any e = true) : e.on < i := by
  unfold edgesOk at h
  simp only [Bool.and_eq_true, List.all_eq_true] at h
  have := h.1 (o, i) (zipIdx_mem ho) e he
  simpa [hb] using this
theorem edgesOk_self {ops : List Oper} (h : edgesOk ops = true) (i : Nat) : ((masks ops).getD i 0).testBit i = false := by
  unfold edgesOk at h
  simp only [Bool.and_eq_true, List.all_eq_true] at h
  cases hm : (masks ops)[i]? with
  | none => simp [List.getD_eq_getElem?_getD, hm]
  | some x =>
    have := h.2 (x, i) (by rw [List.mem_iff_getElem?]; exact ⟨i, by simp [List.getElem?_zipIdx, hm]⟩)
    simpa [List.getD_eq_getElem?_getD, hm] using this
theorem masks_le {ops : List Oper} (h : edgesOk ops = true) {i j : Nat} (hb : ((masks ops).getD i 0).testBit j = true) : j < i := by
  have hcl : Closed ops (fun k => decide (k ≤ i)) := by
    intro k o ho hS e he hbd
    have := edgesOk_edge h ho he hbd
    simp only [decide_eq_true_eq] at hS ⊢
    omega
  have := masks_sound hcl hb (by simp)
  simp only [decide_eq_true_eq] at this
  rcases Nat.lt_or_ge j i with hl | hl
  · exact hl
  · obtain rfl : j = i := by omega
    rw [edgesOk_self h] at hb; cases hb

theorem lin_go {ops : Array Oper} (hok : edgesOk ops.toList = true) : ∀ (fuel t : Nat) (listed : Array Bool), listed.size = ops.size → Closed ops.toList (lst listed) → (((List.range ops.size).filter fun i => !lst listed i).length = fuel) →
    (Region.linearise.go .any ops fuel t listed []).Nodup ∧ (∀ i, i ∈ Region.linearise.go .any ops fuel t listed [] ↔ i < ops.size ∧ lst listed i = false) ∧
    ∀ pre i suf, Region.linearise.go .any ops fuel t listed [] = pre ++ i :: suf → ∀ j, ((masks ops.toList).getD i 0).testBit j = true → j ∈ pre ∨ lst listed j = true := by
  have hlget : ∀ listed : Array Bool, listed.size = ops.size → ∀ i, i < ops.size → listed.getD i true = lst listed i := by
    intro listed hsz i hi
    simp only [lst, Array.getD_eq_getD_getElem?]
    rw [Array.getElem?_eq_getElem (by omega)]; rfl
  intro fuel
  induction fuel with
  | zero =>
    intro t listed hsz hcl hf
    simp only [Region.linearise.go, List.reverse_nil, List.nodup_nil, List.not_mem_nil, false_iff, not_and, true_and]
    refine ⟨fun i hi => ?_, fun pre i suf h => by simp at h⟩
    have := List.eq_nil_of_length_eq_zero hf
    rw [List.filter_eq_nil_iff] at this
    simpa using this i (by simpa using hi)
  | succ fuel ih =>
    intro t listed hsz hcl hf
    have hex : ∃ i, i < ops.size ∧ lst listed i = false := by
      have : 0 < ((List.range ops.size).filter fun i => !lst listed i).length := by omega
      obtain ⟨i, hi⟩ := List.exists_mem_of_length_pos this
      rw [List.mem_filter, List.mem_range] at hi
      exact ⟨i, hi.1, by simpa using hi.2⟩
    obtain ⟨i0, hi0, hl0⟩ := hex
    have hreadyOf : ∀ i, i ∈ (List.range ops.size).filter (fun i => !listed.getD i true && ((ops[i]?).map (·.after.all fun e => !Region.binds .any e || listed.getD e.on false)).getD false) →
        i < ops.size ∧ lst listed i = false ∧ ∀ o, ops.toList[i]? = some o → ∀ e ∈ o.after.toList, Region.binds .any e = true → lst listed e.on = true := by
      intro i hi
      rw [List.mem_filter, List.mem_range] at hi
      obtain ⟨hlt, hb⟩ := hi
      simp only [Bool.and_eq_true, Bool.not_eq_true'] at hb
      obtain ⟨hb1, hb2⟩ := hb
      rw [hlget listed hsz i hlt] at hb1
      refine ⟨hlt, hb1, fun o ho e he hbd => ?_⟩
      have ho' : ops[i]? = some o := by simpa using ho
      rw [ho'] at hb2
      simp only [Option.map_some, Option.getD_some, Array.all_eq_true_iff_forall_mem] at hb2
      have := hb2 e (by simpa using he)
      simpa [hbd, lst] using this
    have hne : ∃ i, i ∈ (List.range ops.size).filter (fun i => !listed.getD i true && ((ops[i]?).map (·.after.all fun e => !Region.binds .any e || listed.getD e.on false)).getD false) := by
      have hmin : ∃ m, lst listed m = false ∧ m < ops.size ∧ ∀ j, j < m → lst listed j = true := by
        have : ∀ n, n ≤ i0 → (∀ j, j < n → lst listed j = true) ∨ ∃ m, lst listed m = false ∧ m < ops.size ∧ ∀ j, j < m → lst listed j = true := by
          intro n
          induction n with
          | zero => intro _; exact .inl fun j hj => absurd hj (by omega)
          | succ n ihn =>
            intro hn
            rcases ihn (by omega) with h1 | h1
            · cases hb : lst listed n with
              | true =>
                refine .inl ?_
                intro j hj
                rcases Nat.lt_succ_iff_lt_or_eq.1 hj with h2 | rfl
                · exact h1 j h2
                · exact hb
              | false => exact .inr ⟨n, hb, by omega, h1⟩
            · exact .inr h1
        rcases this i0 (Nat.le_refl _) with h1 | h1
        · exact ⟨i0, hl0, hi0, h1⟩
        · exact h1
      obtain ⟨m, hm0, hmlt, hmj⟩ := hmin
      refine ⟨m, ?_⟩
      rw [List.mem_filter, List.mem_range]
      refine ⟨hmlt, ?_⟩
      have hom : ops[m]? = some ops[m] := by simp [hmlt]
      rw [hlget listed hsz m hmlt, hm0]
      simp only [Bool.not_false, Bool.true_and, hom, Option.map_some, Option.getD_some, Array.all_eq_true_iff_forall_mem, Bool.or_eq_true, Bool.not_eq_true']
      intro e he
      cases hbd : Region.binds .any e with
      | false => exact .inl rfl
      | true => exact .inr (hmj _ (edgesOk_edge hok (i := m) (o := ops[m]) (by rw [Array.getElem?_toList]; exact hom) (by simpa using he) hbd))
    simp only [Region.linearise.go]
    generalize hrs : (List.range ops.size).filter (fun i => !listed.getD i true && ((ops[i]?).map (·.after.all fun e => !Region.binds .any e || listed.getD e.on false)).getD false) = rs at *
    obtain ⟨r0, hr0⟩ := hne
    have hpos : 0 < rs.length := List.length_pos_of_mem hr0
    have hlt : t % rs.length < rs.length := Nat.mod_lt _ hpos
    rw [List.getElem?_eq_getElem hlt]
    have hmem : rs[t % rs.length] ∈ rs := List.getElem_mem hlt
    generalize rs[t % rs.length] = i at *
    obtain ⟨hilt, hil, hpre⟩ := hreadyOf i hmem
    dsimp only
    rw [linearise_go_acc]
    simp only [List.reverse_cons, List.reverse_nil, List.nil_append, List.singleton_append]
    have hlst : (fun j => j == i || lst listed j) = lst (listed.setIfInBounds i true) := by
      funext j
      simp only [lst, Array.getD_eq_getD_getElem?]
      by_cases hji : j = i
      · subst hji; simp [hsz, hilt]
      · rw [Array.getElem?_setIfInBounds_ne (Ne.symm hji)]; simp [hji]
    have hclS : Closed ops.toList (fun j => j == i || lst listed j) := by
      intro j o ho hS e he hbd
      simp only [Bool.or_eq_true, beq_iff_eq] at hS ⊢
      rcases hS with rfl | hS
      · exact .inr (hpre o ho e he hbd)
      · exact .inr (hcl j o ho hS e he hbd)
    have hcount : ((List.range ops.size).filter fun j => !lst (listed.setIfInBounds i true) j).length = fuel := by
      rw [← hlst]
      have hc : ∀ (r : List Nat), r.Nodup → i ∈ r → (r.filter fun j => !(j == i || lst listed j)).length + 1 = (r.filter fun j => !lst listed j).length := by
        intro r
        induction r with
        | nil => intro _ h; simp at h
        | cons a r ihr =>
          intro hnd hm
          have hnd' := List.nodup_cons.1 hnd
          by_cases hai : a = i
          · subst hai
            rw [List.filter_cons_of_neg (by simp), List.filter_cons_of_pos (by simp [hil])]
            simp only [List.length_cons, Nat.add_right_cancel_iff]
            congr 1
            apply List.filter_congr
            intro x hx
            have : ¬ x = a := fun e => hnd'.1 (e ▸ hx)
            simp [this]
          · have hm' : i ∈ r := by
              rcases List.mem_cons.1 hm with h | h
              · exact absurd h.symm hai
              · exact h
            have := ihr hnd'.2 hm'
            by_cases hla : lst listed a = true
            · rw [List.filter_cons_of_neg (by simp [hla]), List.filter_cons_of_neg (by simp [hla])]; exact this
            · have hla' : lst listed a = false := by simpa using hla
              rw [List.filter_cons_of_pos (by simp [hla', hai]), List.filter_cons_of_pos (by simp [hla'])]
              simp only [List.length_cons]; omega
      have := hc (List.range ops.size) List.nodup_range (by simpa using hilt)
      have h2 : ((List.range ops.size).filter fun j => !(fun j => j == i || lst listed j) j).length = ((List.range ops.size).filter fun j => !(j == i || lst listed j)).length := rfl
      rw [h2]
      omega
    obtain ⟨n1, n2, n3⟩ := ih (t / rs.length) (listed.setIfInBounds i true) (by simpa using hsz) (hlst ▸ hclS) hcount
    refine ⟨?_, ?_, ?_⟩
    · rw [List.nodup_cons]
      refine ⟨fun h => ?_, n1⟩
      have := (n2 i).1 h
      rw [← hlst] at this
      simp at this
    · intro j
      rw [List.mem_cons, n2 j, ← hlst]
      simp only [Bool.or_eq_false_iff, beq_eq_false_iff_ne]
      constructor
      · rintro (rfl | ⟨h1, h2, h3⟩)
        · exact ⟨hilt, hil⟩
        · exact ⟨h1, h3⟩
      · rintro ⟨h1, h2⟩
        by_cases hji : j = i
        · exact .inl hji
        · exact .inr ⟨h1, hji, h2⟩
    · intro pre k suf he j hb
      cases pre with
      | nil =>
        simp only [List.nil_append, List.cons.injEq] at he
        obtain ⟨rfl, _⟩ := he
        have := masks_sound hclS hb (by simp)
        simp only [Bool.or_eq_true, beq_iff_eq] at this
        rcases this with rfl | h1
        · rw [edgesOk_self hok] at hb; cases hb
        · exact .inr h1
      | cons p pre =>
        simp only [List.cons_append, List.cons.injEq] at he
        obtain ⟨rfl, he⟩ := he
        rcases n3 pre k suf he j hb with h1 | h1
        · exact .inl (List.mem_cons_of_mem _ h1)
        · rw [← hlst] at h1
          simp only [Bool.or_eq_true, beq_iff_eq] at h1
          rcases h1 with rfl | h1
          · exact .inl (List.mem_cons_self ..)
          · exact .inr h1

theorem lin_seg {ops : List Oper} (hok : edgesOk ops = true) (t : Nat) : Seg ops (List.range ops.length) (Region.linearise .any ops.toArray t) := by
  unfold Region.linearise
  obtain ⟨h1, h2, h3⟩ := lin_go (ops := ops.toArray) (by simpa using hok) ops.toArray.size t (Array.replicate ops.toArray.size false) (by simp) (fun i o _ hS => by rw [lst_start] at hS; cases hS) (by
    have : ((List.range ops.toArray.size).filter fun i => !lst (Array.replicate ops.toArray.size false) i) = List.range ops.toArray.size := by
      rw [List.filter_eq_self]; intro i _; rw [lst_start]; rfl
    rw [this]; simp)
  refine ⟨h1, fun i => ?_, fun pre i suf he j _ hb => ?_⟩
  · rw [h2 i, lst_start]; simp
  · rcases h3 pre i suf he j (by simpa using hb) with h | h
    · exact h
    · rw [lst_start] at h; cases h

/-- A part of a region, in any order that may be drawn. -/
def RS (P : Program) (ops : List Oper) (L : List Nat) (f : Fr) (h : List Res) (K : Fr → List Res → Prop) : Prop := ∀ σ, Seg ops L σ → hl P ops (σ.filterMap (ops[·]?)) f h K

theorem RDraw_seg {P : Program} {ops : List Oper} {s : List Kn} {f : Fr} {h : List Res} {Q : Exit → Fr → List Res → Prop} (hm : P.follows .mixedOrders = true) (hok : edgesOk ops = true) (n : Nat) (hn : ops.length = n)
    (hr : RS P ops (List.range n) f h fun f h => RN P s f h Q) : RDraw P (List.toArray ops) s f h Q := by
  subst hn
  intro t
  unfold Region.schedule
  rw [hm]
  simp only [Bool.true_or, if_true]
  have := hr _ (lin_seg hok t)
  have e2 : (fun i : Nat => ops.toArray[i]?) = fun i : Nat => ops[i]? := by funext i; simp
  rw [e2]
  exact this

-- what only moves values
def floats (P : Program) (o : Op) : Bool :=
  match o with
  | .convert s _ _ => convI (kd P s)
  | .move _ | .assign _ | .pick .. | .binOp .. | .unOp .. | .nilCheck _ | .fieldAddr .. | .field .. | .indexAddr .. | .index .. | .extract .. | .makeFunc .. | .build .. | .slice _ _ _ _ none => true
  | _ => false
def total (o : Op) : Bool :=
  match o with
  | .move _ | .assign _ | .makeFunc .. => true
  | _ => false
theorem wO_nest {α β : Type} (o : Option α) (g : α → Option β) (K : β → Prop) : (wO o fun x => wO (g x) K) = wO (o.bind g) K := by
  cases o <;> simp [wO]
theorem hbin_float (P : Program) (op : BinOp) (t : TypeId) (x y : Operand) (a b : Value) : ∃ ov, ∀ K : Value → Prop, hbin P op t x y a b K = wO ov K := by
  unfold hbin
  split
  · exact ⟨_, fun K => rfl⟩
  · exact ⟨_, fun K => rfl⟩
  · rename_i u v
    cases hk : kd P t with
    | none => exact ⟨none, fun K => by simp [wO]⟩
    | some k =>
      cases k
      case bool => exact ⟨boolV op u v, fun K => by simp [wO]⟩
      all_goals exact ⟨none, fun K => by simp [wO]⟩
  · exact ⟨_, fun K => wO_nest _ _ _⟩
  · exact ⟨_, fun K => wO_nest _ _ _⟩
  · exact ⟨_, fun K => rfl⟩
theorem hop_float (P : Program) {op : Op} (ty : TypeId) (hf : floats P op = true) (f : Fr) : ∃ ov : Option Value, ∀ (h : List Res) (K : Value → List Res → Prop), hop P op ty f h K = wO ov fun v => K v h := by
  cases op <;> try (simp [floats] at hf; done)
  case convert s d x =>
    simp only [hop]
    unfold hconv
    split
    · rename_i q n hx
      exact ⟨(kd P s).bind fun _ => (kd P d).bind fun k => (ikd k).map fun k => .int k (k.wrap n), fun h K => by
        rw [← wO_nest]
        rcases h0 : kd P s with _ | k0
        · simp [wO]
        · rcases h1 : kd P d with _ | k1
          · simp [wO]
          · rcases h2 : ikd k1 with _ | k2
            · simp [wO, h2]
            · simp [wO, h2]⟩
    · refine ⟨none, fun h K => ?_⟩
      have : convI (kd P s) = true := hf
      simp [wO, this]
  case move x => exact ⟨some (ev f x), fun h K => by simp [hop, wO]⟩
  case assign x => exact ⟨some (ev f x), fun h K => by simp [hop, wO]⟩
  case pick c a b =>
    simp only [hop]
    unfold hpick
    split
    · exact ⟨some _, fun h K => by simp [wO]; rfl⟩
    · exact ⟨none, fun h K => by simp [wO]⟩
  case build t ps => exact ⟨_, fun h K => rfl⟩
  case nilCheck x =>
    simp only [hop]
    unfold hnil
    split
    · exact ⟨some _, fun h K => by simp [wO]; rfl⟩
    · exact ⟨some _, fun h K => by simp [wO]; rfl⟩
    · exact ⟨none, fun h K => by simp [wO]⟩
  case binOp o t x y t' =>
    obtain ⟨ov, hv⟩ := hbin_float P o t x y (ev f x) (ev f y)
    exact ⟨ov, fun h K => hv _⟩
  case unOp o t x => exact ⟨_, fun h K => rfl⟩
  case makeFunc fn a b => exact ⟨some (.func fn (a.map (ev f)) (b.map (ev f))), fun h K => by simp [hop, wO]⟩
  case slice t x lo hi mx =>
    cases mx with
    | some m => simp [floats] at hf
    | none => exact ⟨_, fun h K => wO_nest _ _ _⟩
  case fieldAddr s x i => exact ⟨_, fun h K => wO_nest _ _ _⟩
  case field s x i => exact ⟨_, fun h K => wO_nest _ _ _⟩
  case indexAddr t x i => exact ⟨_, fun h K => wO_nest _ _ _⟩
  case index t x i => exact ⟨_, fun h K => wO_nest _ _ _⟩
  case extract t i =>
    simp only [hop]
    unfold hext
    split
    · exact ⟨_, fun h K => rfl⟩
    · exact ⟨none, fun h K => by simp [wO]⟩
theorem hop_total (P : Program) {op : Op} (ty : TypeId) (hf : total op = true) (f : Fr) : ∃ v : Value, ∀ (h : List Res) (K : Value → List Res → Prop), hop P op ty f h K = K v h := by
  cases op <;> try (simp [total] at hf; done)
  case move x => exact ⟨ev f x, fun h K => rfl⟩
  case assign x => exact ⟨ev f x, fun h K => rfl⟩
  case makeFunc fn a b => exact ⟨.func fn (a.map (ev f)) (b.map (ev f)), fun h K => rfl⟩

/-- One operation with its guard. -/
def hstep (P : Program) (ops : List Oper) (o : Oper) (f : Fr) (h : List Res) (K : Value → List Res → Prop) : Prop :=
  match o.guard with
  | none => hop P o.op o.type f h K
  | some (j, b) => hguard (gv ops j f) b (hop P o.op o.type f h K) (K undef h)
theorem hl_step (P : Program) (ops : List Oper) (o : Oper) (rest : List Oper) (f : Fr) (h : List Res) (K : Fr → List Res → Prop) : hl P ops (o :: rest) f h K = hstep P ops o f h fun v h' => hl P ops rest (put f o.dst v) h' K := by
  rw [hl]; unfold hstep
  cases o.guard with
  | none => rfl
  | some x => rfl
theorem hstep_frame {P : Program} {ops : List Oper} {o : Oper} {f g : Fr} {h : List Res} {K : Value → List Res → Prop} (he : ∀ t ∈ readsOf ops o, f t = g t) : hstep P ops o f h K = hstep P ops o g h K := by
  have hf : ∀ K, hop P o.op o.type f h K = hop P o.op o.type g h K := fun K => hop_frame fun t ht => he t (by simp [readsOf, ht])
  unfold hstep
  split
  · exact hf _
  · rename_i j b hg
    rw [gv_frame hg he, hf]
theorem hguard_mono {v : Value} {b : Bool} {A B A' B' : Prop} (h1 : A → A') (h2 : B → B') (h : hguard v b A B) : hguard v b A' B' := by
  unfold hguard at h ⊢
  split
  · rename_i x
    cases b <;> exact Br_mono (by first | exact h1 | exact h2) (by first | exact h1 | exact h2) h
  · rename_i hx
    split at h
    · rename_i x; exact absurd rfl (hx x)
    · exact h2 h
theorem hstep_mono {P : Program} {ops : List Oper} {o : Oper} {f : Fr} {h : List Res} {K K' : Value → List Res → Prop} (hk : ∀ v h, K v h → K' v h) (hh : hstep P ops o f h K) : hstep P ops o f h K' := by
  unfold hstep at hh ⊢
  split
  · rename_i hg; rw [hg] at hh; exact hop_mono hk hh
  · rename_i j b hg; rw [hg] at hh; exact hguard_mono (hop_mono hk) (hk _ _) hh
theorem hguard_wO {α : Type} (v : Value) (b : Bool) (o : Option α) (u : α) (K : α → Prop) : ∃ ov : Option α, (∀ K : α → Prop, hguard v b (wO o K) (K u) = wO ov K) := by
  unfold hguard
  split
  · rename_i x
    cases x <;> cases b
    · exact ⟨o, fun K => by simp [Br]⟩
    · exact ⟨some u, fun K => by simp [Br, wO]⟩
    · exact ⟨some u, fun K => by simp [Br, wO]⟩
    · exact ⟨o, fun K => by simp [Br]⟩
  · exact ⟨some u, fun K => by simp [wO]⟩
theorem hstep_float (P : Program) (ops : List Oper) {o : Oper} (hf : floats P o.op = true) (f : Fr) : ∃ ov : Option Value, ∀ (h : List Res) (K : Value → List Res → Prop), hstep P ops o f h K = wO ov fun v => K v h := by
  obtain ⟨ov, hv⟩ := hop_float P o.type hf f
  unfold hstep
  split
  · exact ⟨ov, hv⟩
  · rename_i j b hg
    obtain ⟨ow, hw⟩ := hguard_wO (gv ops j f) b ov undef (fun _ => True)
    exact ⟨ow, fun h K => by rw [hv]; exact hw fun v => K v h⟩
theorem hstep_total (P : Program) (ops : List Oper) {o : Oper} (hf : total o.op = true) (f : Fr) : ∃ v : Value, ∀ (h : List Res) (K : Value → List Res → Prop), hstep P ops o f h K = K v h := by
  obtain ⟨v, hv⟩ := hop_total P o.type hf f
  unfold hstep
  split
  · exact ⟨v, hv⟩
  · rename_i j b hg
    unfold hguard
    split
    · rename_i x hx
      cases x <;> cases b
      · exact ⟨v, fun h K => by simp [Br, hv]⟩
      · exact ⟨undef, fun h K => by simp [Br]⟩
      · exact ⟨undef, fun h K => by simp [Br]⟩
      · exact ⟨v, fun h K => by simp [Br, hv]⟩
    · exact ⟨undef, fun h K => rfl⟩

theorem put_comm (f : Fr) (d e : Option Nat) (v u : Value) (hne : d = e → d = none) : put (put f d v) e u = put (put f e u) d v := by
  funext t
  simp only [put_at]
  by_cases h1 : d = some t
  · by_cases h2 : e = some t
    · have := hne (h1.trans h2.symm); rw [this] at h1; cases h1
    · simp [h1, h2]
  · simp [h1]
theorem reads_put {ops : List Oper} {o : Oper} {f : Fr} {d : Option Nat} {v : Value} (h : ∀ s, d = some s → s ∉ readsOf ops o) : ∀ t ∈ readsOf ops o, put f d v t = f t := by
  intro t ht
  rw [put_at]
  split
  · rename_i hd; exact absurd ht (h t hd)
  · rfl
theorem hits_no {ops : List Oper} {a b : Oper} (h : hits ops a b = false) : (∀ s, a.dst = some s → s ∉ readsOf ops b) ∧ (∀ s, b.dst = some s → s ∉ readsOf ops a) ∧ (a.dst = b.dst → a.dst = none) := by
  unfold hits at h
  simp only [Bool.or_eq_false_iff] at h
  obtain ⟨h1, h2⟩ := h
  refine ⟨fun s hs => ?_, fun s hs => ?_, fun e => ?_⟩
  · rw [hs] at h1
    simp only [Bool.or_eq_false_iff] at h1
    simpa using h1.1
  · rw [hs] at h2
    simpa using h2
  · cases ha : a.dst with
    | none => rfl
    | some s =>
      rw [ha] at h1
      simp only [Bool.or_eq_false_iff] at h1
      rw [← e, ha] at h1
      simp at h1

/-- Two operations that stand one behind the other change places. -/
theorem hl_swap {P : Program} {ops : List Oper} {x y : Oper} {t : List Oper} {f : Fr} {h : List Res} {K : Fr → List Res → Prop} (hno : hits ops x y = false) (hfl : total x.op = true ∨ floats P y.op = true)
    (hh : hl P ops (y :: x :: t) f h K) : hl P ops (x :: y :: t) f h K := by
  obtain ⟨n1, n2, n3⟩ := hits_no hno
  simp only [hl_step] at hh ⊢
  rcases hfl with hx | hy
  · obtain ⟨v, hv⟩ := hstep_total P ops hx f
    rw [hv]
    rw [hstep_frame (g := f) (reads_put n1)]
    refine hstep_mono (fun u h2 hk => ?_) hh
    rw [hstep_frame (g := f) (reads_put n2), hv] at hk
    rw [put_comm _ _ _ _ _ n3]
    exact hk
  · obtain ⟨ov, hv⟩ := hstep_float P ops hy f
    rw [hv] at hh
    obtain ⟨u, hu, hh⟩ := hh
    rw [hstep_frame (g := f) (reads_put n2)] at hh
    refine hstep_mono (fun v h1 hk => ?_) hh
    rw [hstep_frame (g := f) (reads_put n1), hv]
    refine ⟨u, hu, ?_⟩
    show hl P ops t (put (put f x.dst v) y.dst u) h1 K
    rw [put_comm _ _ _ _ _ n3]
    exact hk

/-- What reads, or moves values. -/
def readsB (P : Program) (o : Op) : Bool := floats P o || (match o with | .load .. => true | _ => false)
def allocB (o : Oper) : Bool := (match o.op with | .alloc _ => true | _ => false) && o.guard.isNone
theorem look_fresh {g : Nat} {t : TypeId} {cs : Array Value} {ad : Addr} {v : Value} : ∀ {h : List Res}, below g h → look ad h = some v → ad.block ≠ g
  | .cells g' _ cs' :: h, hb, hl => by
    simp only [look] at hl
    split at hl
    · rename_i he
      have : g' < g := hb.1
      omega
    · exact look_fresh (t := t) (cs := cs) hb.2 hl
  | .anchor w0 S :: h, hb, hl => by
    simp only [look] at hl
    split at hl
    · rename_i hc
      have h1 : w0.heap.size ≤ g := hb.1
      have := hc.1
      omega
    · exact look_fresh (t := t) (cs := cs) hb.2 hl
  | .sem _ _ _ :: h, hb, hl => look_fresh (t := t) (cs := cs) hb.2 (by simpa only [look] using hl)
theorem lookN_fresh {g : Nat} {t : TypeId} {cs : Array Value} {ad : Addr} {n : Nat} {v : Array Value} : ∀ {h : List Res}, below g h → lookN ad n h = some v → ad.block ≠ g
  | .cells g' _ cs' :: h, hb, hl => by
    simp only [lookN] at hl
    split at hl
    · rename_i he
      have : g' < g := hb.1
      omega
    · exact lookN_fresh (t := t) (cs := cs) hb.2 hl
  | .anchor w0 S :: h, hb, hl => by
    simp only [lookN] at hl
    split at hl
    · rename_i hc
      have h1 : w0.heap.size ≤ g := hb.1
      have := hc.1
      omega
    · exact lookN_fresh (t := t) (cs := cs) hb.2 hl
  | .sem _ _ _ :: h, hb, hl => lookN_fresh (t := t) (cs := cs) hb.2 (by simpa only [lookN] using hl)
theorem hop_reads (P : Program) {op : Op} (ty : TypeId) (hf : readsB P op = true) (f : Fr) (h : List Res) : ∃ ov : Option Value, (∀ (K : Value → List Res → Prop), hop P op ty f h K = wO ov fun v => K v h) ∧
    ∀ (g : Nat) (t : TypeId) (cs : Array Value), below g h → ∀ v, ov = some v → ∀ K : Value → List Res → Prop, K v (.cells g t cs :: h) → hop P op ty f (.cells g t cs :: h) K := by
  unfold readsB at hf
  by_cases hfl : floats P op = true
  · obtain ⟨ov, hv⟩ := hop_float P ty hfl f
    exact ⟨ov, hv h, fun g t cs _ v he K hk => by rw [hv]; exact ⟨v, he, hk⟩⟩
  · rw [Bool.or_eq_true] at hf
    rcases hf with hf | hf
    · exact absurd hf hfl
    cases op <;> try (simp at hf; done)
    case load t x =>
      refine ⟨loadK (ldk P t) (ev f x) h, fun K => hload_eq P h t (ev f x) K, fun g t' cs hb v he K hk => ?_⟩
      have e : hop P (.load t x) ty f (.cells g t' cs :: h) K = wO (loadK (ldk P t) (ev f x) (.cells g t' cs :: h)) fun v => K v (.cells g t' cs :: h) := hload_eq P _ t (ev f x) K
      rw [e]
      refine ⟨v, ?_, hk⟩
      unfold loadK at he ⊢
      split at he
      · rename_i ad
        rw [← he]
        simp [look, look_fresh (t := t') (cs := cs) hb he]
      · rename_i n ad
        obtain ⟨u, hu, rfl⟩ := Option.map_eq_some_iff.1 he
        rw [← he]
        simp [lookN, lookN_fresh (t := t') (cs := cs) hb hu]
      · cases he
/-- A new variable may be made ahead of what reads. -/
theorem hl_alloc {P : Program} {ops : List Oper} {x y : Oper} {t : List Oper} {f : Fr} {h : List Res} {K : Fr → List Res → Prop} (hno : hits ops x y = false) (hx : allocB x = true) (hy : readsB P y.op = true)
    (hh : hl P ops (y :: x :: t) f h K) : hl P ops (x :: y :: t) f h K := by
  obtain ⟨n1, n2, n3⟩ := hits_no hno
  simp only [hl_step] at hh ⊢
  obtain ⟨d, op, ty, pos, aft, gd⟩ := x
  unfold allocB at hx
  simp only [Bool.and_eq_true, Option.isNone_iff_eq_none] at hx
  obtain ⟨hx1, rfl⟩ := hx
  cases op <;> try (simp at hx1; done)
  rename_i ta
  obtain ⟨ov, hv1, hv2⟩ := hop_reads P y.type hy f h
  -- what y gives here
  have hgive : ∃ u, hstep P ops ⟨d, .alloc ta, ty, pos, aft, none⟩ (put f y.dst u) h (fun v h' => hl P ops t (put (put f y.dst u) d v) h' K) ∧
      ∀ (g : Nat) (cs : Array Value), below g h → ∀ K' : Value → List Res → Prop, K' u (.cells g ta cs :: h) → hstep P ops y f (.cells g ta cs :: h) K' := by
    unfold hstep at hh
    split at hh
    · rename_i hg
      rw [hv1] at hh
      obtain ⟨u, hu, hk⟩ := hh
      refine ⟨u, hk, fun g cs hb K' hk' => ?_⟩
      unfold hstep
      rw [hg]
      exact hv2 g ta cs hb u hu K' hk'
    · rename_i j b hg
      unfold hguard at hh
      split at hh
      · rename_i z hz
        rw [hv1] at hh
        have hrun : (∃ u, ov = some u ∧ hstep P ops ⟨d, .alloc ta, ty, pos, aft, none⟩ (put f y.dst u) h (fun v h' => hl P ops t (put (put f y.dst u) d v) h' K)) → z = b → ∃ u, hstep P ops ⟨d, .alloc ta, ty, pos, aft, none⟩ (put f y.dst u) h (fun v h' => hl P ops t (put (put f y.dst u) d v) h' K) ∧
            ∀ (g : Nat) (cs : Array Value), below g h → ∀ K' : Value → List Res → Prop, K' u (.cells g ta cs :: h) → hstep P ops y f (.cells g ta cs :: h) K' := by
          rintro ⟨u, hu, hk⟩ hzb
          refine ⟨u, hk, fun g cs hb K' hk' => ?_⟩
          unfold hstep
          rw [hg]
          simp only [hz, hzb]
          unfold hguard
          cases b <;> simp [Br] <;> exact hv2 g ta cs hb u hu K' hk'
        have hskip : hstep P ops ⟨d, .alloc ta, ty, pos, aft, none⟩ (put f y.dst undef) h (fun v h' => hl P ops t (put (put f y.dst undef) d v) h' K) → z = (!b) → ∃ u, hstep P ops ⟨d, .alloc ta, ty, pos, aft, none⟩ (put f y.dst u) h (fun v h' => hl P ops t (put (put f y.dst u) d v) h' K) ∧
            ∀ (g : Nat) (cs : Array Value), below g h → ∀ K' : Value → List Res → Prop, K' u (.cells g ta cs :: h) → hstep P ops y f (.cells g ta cs :: h) K' := by
          intro hk hzb
          refine ⟨undef, hk, fun g cs hb K' hk' => ?_⟩
          unfold hstep
          rw [hg]
          simp only [hz, hzb]
          unfold hguard
          cases b <;> simpa [Br] using hk'
        cases z <;> cases b <;> simp [Br] at hh
        · exact hrun hh rfl
        · exact hskip hh rfl
        · exact hskip hh rfl
        · exact hrun hh rfl
      · rename_i hz
        refine ⟨undef, hh, fun g cs hb K' hk' => ?_⟩
        unfold hstep
        rw [hg]
        simp only
        unfold hguard
        split
        · rename_i z hz'; exact absurd hz' (hz z)
        · exact hk'
  obtain ⟨u, hk, hy2⟩ := hgive
  have hk' : wO (zeroT P ta) fun z => hnew ta z.cells h fun v h' => hl P ops t (put (put f y.dst u) d v) h' K := hk
  obtain ⟨z, hz, hn⟩ := hk'
  show wO (zeroT P ta) fun z => hnew ta z.cells h fun v h' => hstep P ops y (put f d v) h' fun v' h'' => hl P ops t (put (put f d v) y.dst v') h'' K
  refine ⟨z, hz, fun g hb => ?_⟩
  show hstep P ops y (put f d (.pointer (some ⟨g, 0, none⟩))) (.cells g ta z.cells :: h) fun v' h'' => hl P ops t (put (put f d (.pointer (some ⟨g, 0, none⟩))) y.dst v') h'' K
  rw [hstep_frame (g := f) (reads_put n1)]
  refine hy2 g _ hb _ ?_
  show hl P ops t (put (put f d (.pointer (some ⟨g, 0, none⟩))) y.dst u) (.cells g ta z.cells :: h) K
  rw [put_comm _ _ _ _ _ n3]
  exact hn g hb

theorem hl_move {P : Program} {ops : List Oper} {x : Oper} : ∀ (l t : List Oper) (f : Fr) (h : List Res) (K : Fr → List Res → Prop), (∀ y ∈ l, hits ops x y = false ∧ ((total x.op = true ∨ floats P y.op = true) ∨ (allocB x = true ∧ readsB P y.op = true))) →
    hl P ops (l ++ x :: t) f h K → hl P ops (x :: (l ++ t)) f h K
  | [], _, _, _, _, _, hh => hh
  | y :: l, t, f, h, K, hl_, hh => by
    have hrest : hl P ops (y :: x :: (l ++ t)) f h K := hl_mono_rest (fun f h hh => hl_move l t f h K (fun z hz => hl_ z (by simp [hz])) hh) hh
    rcases (hl_ y (by simp)).2 with h1 | h1
    · exact hl_swap (hl_ y (by simp)).1 h1 hrest
    · exact hl_alloc (hl_ y (by simp)).1 h1.1 h1.2 hrest

/-- The check of a cut. -/
def cutOk (P : Program) (ops : List Oper) (L L1 L2 : List Nat) : Bool :=
  let m := masks ops
  (L.all fun i => L1.contains i || L2.contains i) && (L1.all fun i => L.contains i && decide (i < ops.length) && !L2.contains i) && (L2.all fun i => L.contains i && decide (i < ops.length)) &&
  (L2.all fun j => L1.all fun i => (m.getD j 0).testBit i || (match ops[j]?, ops[i]? with
    | some b, some a => !hits ops b a && ((total b.op || floats P a.op) || (allocB b && readsB P a.op))
    | _, _ => false))

theorem RS_cut {P : Program} {ops : List Oper} {L : List Nat} {f : Fr} {h : List Res} {K : Fr → List Res → Prop} (L1 L2 : List Nat) (hok : cutOk P ops L L1 L2 = true)
    (hr : RS P ops L1 f h fun f h => RS P ops L2 f h K) : RS P ops L f h K := by
  unfold cutOk at hok
  simp only [Bool.and_eq_true, decide_eq_true_eq, List.all_eq_true, Bool.or_eq_true, List.contains_iff_mem, Bool.not_eq_true', List.contains_eq_mem, decide_eq_false_iff_not] at hok
  obtain ⟨⟨⟨hL, hL1⟩, hL2⟩, hc⟩ := hok
  intro σ hσ
  have hlen : ∀ i, i ∈ L → i < ops.length := by
    intro i hi
    rcases hL i hi with h1 | h1
    · exact (hL1 i h1).1.2
    · exact (hL2 i h1).2
  have hget : ∀ i, i ∈ L → ops[i]? = some (ops[i]?.getD default) := by
    intro i hi'
    rw [List.getElem?_eq_getElem (hlen i hi')]; rfl
  -- the two parts
  have hsplit : ∀ (suf pre : List Nat), σ = pre ++ suf → ∀ f h, hl P ops ((suf.filter fun i => decide (i ∈ L1)).filterMap (ops[·]?) ++ (suf.filter fun i => !decide (i ∈ L1)).filterMap (ops[·]?)) f h K → hl P ops (suf.filterMap (ops[·]?)) f h K := by
    intro suf
    induction suf with
    | nil => intro _ _ f h hh; exact hh
    | cons x suf ih =>
      intro pre hpre f h hh
      have hx := (hσ.mem x).1 (by rw [hpre]; simp)
      have ih' := ih (pre ++ [x]) (by rw [hpre]; simp)
      rw [List.filterMap_cons, hget x hx]
      refine hl_mono_rest ih' ?_
      by_cases hxk : x ∈ L1
      · rw [List.filter_cons_of_pos (by simpa using hxk), List.filter_cons_of_neg (by simpa using hxk), List.filterMap_cons, hget x hx] at hh
        exact hh
      · rw [List.filter_cons_of_neg (by simpa using hxk), List.filter_cons_of_pos (by simpa using hxk), List.filterMap_cons (a := x), hget x hx] at hh
        have hx2 : x ∈ L2 := (hL x hx).resolve_left hxk
        refine hl_move _ _ _ _ _ (fun y hy => ?_) hh
        obtain ⟨i, hi', hiy⟩ := List.mem_filterMap.1 hy
        rw [List.mem_filter] at hi'
        have hik : i ∈ L1 := by simpa using hi'.2
        have him := (hσ.mem i).1 (by rw [hpre]; simp [hi'.1])
        have hno : ((masks ops).getD x 0).testBit i = false := by
          cases hb : ((masks ops).getD x 0).testBit i with
          | false => rfl
          | true =>
            have := hσ.ord pre x suf hpre i him hb
            have hnd := hσ.nodup
            rw [hpre] at hnd
            have := (List.nodup_append.1 hnd).2.2 i this i (by simp [hi'.1])
            exact absurd rfl this
        rcases hc x hx2 i hik with h1 | h1
        · rw [hno] at h1; cases h1
        · rw [hget x hx, hiy] at h1
          simpa only [Bool.and_eq_true, Bool.or_eq_true, Bool.not_eq_true'] using h1
  have hsub : ∀ (p : Nat → Bool) (M : List Nat), (∀ i, i ∈ L → (p i = true ↔ i ∈ M)) → (∀ i, i ∈ M → i ∈ L) → Seg ops M (σ.filter p) := by
    intro p M hp hM
    refine ⟨hσ.nodup.filter _, fun i => ?_, fun pre i suf he j hj hm => ?_⟩
    · rw [List.mem_filter, hσ.mem]
      constructor
      · rintro ⟨h1, h2⟩; exact (hp i h1).1 h2
      · intro h1; exact ⟨hM i h1, (hp i (hM i h1)).2 h1⟩
    · obtain ⟨l1, l2, e1, e2, e3⟩ := List.filter_eq_append_iff.1 he
      obtain ⟨m1, m2, f1, f2, f3, f4⟩ := List.filter_eq_cons_iff.1 e3
      have := hσ.ord (l1 ++ m1) i m2 (by rw [e1, f1]; simp) j (hM j hj) hm
      have hpj := (hp j (hM j hj)).2 hj
      rcases List.mem_append.1 this with h | h
      · rw [← e2, List.mem_filter]; exact ⟨h, hpj⟩
      · exact absurd hpj (by simpa using f2 j h)
  have s1 := hsub (fun i => decide (i ∈ L1)) L1 (fun i _ => by simp) (fun i hi => (hL1 i hi).1.1)
  have s2 := hsub (fun i => !decide (i ∈ L1)) L2 (fun i hi => by
    simp only [Bool.not_eq_true', decide_eq_false_iff_not]
    exact ⟨fun h => (hL i hi).resolve_left h, fun h h1 => (hL1 i h1).2 h⟩) (fun i hi => (hL2 i hi).1)
  refine hsplit σ [] rfl f h ?_
  have h1 := hr _ s1
  have happ : ∀ (l1 l2 : List Oper) (f : Fr) (h : List Res) (K : Fr → List Res → Prop), hl P ops l1 f h (fun f h => hl P ops l2 f h K) → hl P ops (l1 ++ l2) f h K := by
    intro l1
    induction l1 with
    | nil => intro l2 f h K hh; exact hh
    | cons o l1 ih =>
      intro l2 f h K hh
      rw [List.cons_append, hl_step]
      rw [hl_step] at hh
      exact hstep_mono (fun v h' hk => ih _ _ _ _ hk) hh
  have hlm : ∀ (l : List Oper) (f : Fr) (h : List Res) (K K' : Fr → List Res → Prop), (∀ f h, K f h → K' f h) → hl P ops l f h K → hl P ops l f h K' := by
    intro l
    induction l with
    | nil => intro f h K K' hk hh; exact hk _ _ hh
    | cons o l ih =>
      intro f h K K' hk hh
      rw [hl_step] at hh ⊢
      exact hstep_mono (fun v h' hh => ih _ _ _ _ hk hh) hh
  exact happ _ _ _ _ _ (hlm _ _ _ _ _ (fun f h hh => hh _ s2) h1)

/-- The operations of some numbers. -/
def pick (ops : List Oper) : List Nat → List Oper
  | [] => []
  | i :: L => match ops[i]? with | some o => o :: pick ops L | none => pick ops L
theorem pick_eq (ops : List Oper) : ∀ L : List Nat, pick ops L = L.filterMap (ops[·]?)
  | [] => rfl
  | i :: L => by
    rw [pick, List.filterMap_cons, pick_eq ops L]
    cases ops[i]? <;> rfl
/-- A run in a chosen order, of operations that turn nothing. -/
inductive TrL (P : Program) (ops : List Oper) (h : List Res) : List Nat → Fr → List Done → Fr → Prop where
  | nil (f : Fr) : TrL P ops h [] f [] f
  | cons {i : Nat} {o : Oper} {rest : List Nat} {f : Fr} {v : Value} {l : List Done} {g : Fr} (ho : ops[i]? = some o) (hv : Gives P ops o f h v) (hr : TrL P ops h rest (put f o.dst v) l g) : TrL P ops h (i :: rest) f ((i, o.dst, v) :: l) g
theorem TrL.fold {P : Program} {ops : List Oper} {h : List Res} {L : List Nat} {f g : Fr} {l : List Done} (ht : TrL P ops h L f l g) : g = foldS f l fun _ => true := by
  induction ht with
  | nil => rfl
  | cons ho hv hr ih => rw [ih]; rfl
theorem TrL.nums {P : Program} {ops : List Oper} {h : List Res} {L : List Nat} {f g : Fr} {l : List Done} (ht : TrL P ops h L f l g) : l.map (·.1) = L ∧ ∀ x ∈ l, ∃ o, ops[x.1]? = some o ∧ x.2.1 = o.dst := by
  induction ht with
  | nil => simp
  | @cons i o rest f v l g ho hv hr ih =>
    refine ⟨by rw [List.map_cons, ih.1], fun x hx => ?_⟩
    rcases List.mem_cons.1 hx with rfl | hm
    · exact ⟨o, ho, rfl⟩
    · exact ih.2 x hm
theorem TrL.at_ {P : Program} {ops : List Oper} {h : List Res} {L : List Nat} {f g : Fr} {l : List Done} (ht : TrL P ops h L f l g) : ∀ i, i ∈ L →
    ∃ o v l1 l2, ops[i]? = some o ∧ l = l1 ++ (i, o.dst, v) :: l2 ∧ Gives P ops o (foldS f l1 fun _ => true) h v := by
  induction ht with
  | nil => intro i hi; simp at hi
  | @cons n o' rest f v l g ho hv hr ih =>
    intro i hi
    rcases List.mem_cons.1 hi with rfl | hm
    · exact ⟨o', v, [], l, ho, rfl, hv⟩
    · obtain ⟨o, v', l1, l2, e, he, hg⟩ := ih i hm
      exact ⟨o, v', (n, o'.dst, v) :: l1, l2, e, by rw [he]; rfl, hg⟩
def ToL (P : Program) (ops : List Oper) (h : List Res) (L : List Nat) (f : Fr) (C : Fr → Prop) : Prop := ∃ l g, TrL P ops h L f l g ∧ C g
/-- What is left of a run: the operations with their numbers. -/
def ToO (P : Program) (ops : List Oper) (h : List Res) : List Nat → List Oper → Fr → (Fr → Prop) → Prop
  | i :: L, o :: rest, f, C => ∃ v, Gives P ops o f h v ∧ ToO P ops h L rest (put f o.dst v) C
  | [], [], f, C => C f
  | _, _, _, _ => False
theorem ToO_sound {P : Program} {ops : List Oper} {h : List Res} : ∀ (L : List Nat) (rest : List Oper) (f : Fr) (C : Fr → Prop), (∀ i, i ∈ L → (ops[i]?).isSome = true) → rest = pick ops L → ToO P ops h L rest f C → ToL P ops h L f C
  | [], rest, f, C, _, e, ht => by
    subst e
    exact ⟨[], f, .nil f, ht⟩
  | i :: L, rest, f, C, hi, e, ht => by
    obtain ⟨o, ho⟩ := Option.isSome_iff_exists.1 (hi i (by simp))
    rw [pick, ho] at e
    subst e
    obtain ⟨v, hv, hr⟩ := ht
    obtain ⟨l, g, htr, hc⟩ := ToO_sound L _ _ C (fun j hj => hi j (by simp [hj])) rfl hr
    exact ⟨_, g, .cons ho hv htr, hc⟩

/-- The check of a part whose operations turn nothing: what hinders one another is ordered as in L. -/
def detOk (ops : List Oper) : List Nat → Bool
  | [] => true
  | i :: L => decide (i < ops.length) && !L.contains i && (L.all fun j => !((masks ops).getD i 0).testBit j && (match ops[i]?, ops[j]? with
      | some a, some b => !hits ops a b || ((masks ops).getD j 0).testBit i
      | _, _ => false)) && detOk ops L
theorem detOk_split {ops : List Oper} : ∀ (L1 : List Nat) (i : Nat) (L2 : List Nat), detOk ops (L1 ++ i :: L2) = true → i < ops.length ∧ i ∉ L2 ∧ i ∉ L1 ∧
    (∀ j ∈ L1, ∀ a b, ops[j]? = some a → ops[i]? = some b → hits ops a b = true → ((masks ops).getD i 0).testBit j = true) ∧
    (∀ j ∈ L2, ∀ a b, ops[i]? = some a → ops[j]? = some b → hits ops a b = true → ((masks ops).getD j 0).testBit i = true)
  | [], i, L2, h => by
    rw [List.nil_append, detOk] at h
    simp only [Bool.and_eq_true, decide_eq_true_eq, List.all_eq_true, Bool.not_eq_true', List.contains_eq_mem, decide_eq_false_iff_not] at h
    refine ⟨h.1.1.1, h.1.1.2, by simp, by simp, fun j hj a b ha hb hh => ?_⟩
    have := (h.1.2 j hj).2
    rw [ha, hb] at this
    simp only [hh, Bool.not_true, Bool.false_or] at this
    exact this
  | k :: L1, i, L2, h => by
    rw [List.cons_append, detOk] at h
    simp only [Bool.and_eq_true, decide_eq_true_eq, List.all_eq_true, Bool.not_eq_true', List.contains_eq_mem, decide_eq_false_iff_not] at h
    obtain ⟨h1, h2, h3, h4, h5⟩ := detOk_split L1 i L2 h.2
    refine ⟨h1, h2, ?_, fun j hj a b ha hb hh => ?_, h5⟩
    · intro hm
      rcases List.mem_cons.1 hm with rfl | hm
      · exact h.1.1.2 (by simp)
      · exact h3 hm
    · rcases List.mem_cons.1 hj with rfl | hm
      · have := (h.1.2 i (by simp)).2
        rw [ha, hb] at this
        simp only [hh, Bool.not_true, Bool.false_or] at this
        exact this
      · exact h4 j hm a b ha hb hh
theorem detOk_nodup {ops : List Oper} : ∀ L : List Nat, detOk ops L = true → L.Nodup ∧ ∀ i ∈ L, i < ops.length
  | [], _ => by simp
  | i :: L, h => by
    rw [detOk] at h
    simp only [Bool.and_eq_true, decide_eq_true_eq, List.all_eq_true, Bool.not_eq_true', List.contains_eq_mem, decide_eq_false_iff_not] at h
    obtain ⟨h1, h2⟩ := detOk_nodup L h.2
    refine ⟨List.nodup_cons.2 ⟨h.1.1.2, h1⟩, fun j hj => ?_⟩
    rcases List.mem_cons.1 hj with rfl | hm
    · exact h.1.1.1
    · exact h2 j hm

theorem RS_det {P : Program} {ops : List Oper} {L : List Nat} {f : Fr} {h : List Res} {K : Fr → List Res → Prop} (hok : detOk ops L = true)
    (ht : ToO P ops h L (pick ops L) f fun g => K g h) : RS P ops L f h K := by
  obtain ⟨hnodupL, hltL⟩ := detOk_nodup L hok
  obtain ⟨l, g, htr, hK⟩ := ToO_sound L _ f _ (fun i hi => by rw [List.getElem?_eq_getElem (hltL i hi)]; rfl) rfl ht
  obtain ⟨hnums, hdsts⟩ := htr.nums
  intro σ hσ
  have hmemL : ∀ x ∈ l, x.1 ∈ L := fun x hx => by rw [← hnums]; exact List.mem_map_of_mem hx
  have key : ∀ (suf pre : List Nat), σ = pre ++ suf → hl P ops (suf.filterMap (ops[·]?)) (foldS f l fun j => decide (j ∈ pre)) h K := by
    intro suf
    induction suf with
    | nil =>
      intro pre hpre
      rw [List.append_nil] at hpre
      subst hpre
      have hg : foldS f l (fun j => decide (j ∈ σ)) = g := by
        rw [htr.fold]
        funext s
        refine foldS_at l f f rfl ?_
        intro x hx _
        exact decide_eq_true ((hσ.mem _).2 (hmemL x hx))
      rw [hg]
      exact hK
    | cons i suf ih =>
      intro pre hpre
      have him := (hσ.mem i).1 (by rw [hpre]; simp)
      have hnd := hσ.nodup
      rw [hpre] at hnd
      have hil : i ∉ pre := fun hm => (List.nodup_append.1 hnd).2.2 i hm i (by simp) rfl
      obtain ⟨o, v, l1, l2, hio, hle, hgv⟩ := htr.at_ i him
      have hLs : L = l1.map (·.1) ++ i :: l2.map (·.1) := by rw [← hnums, hle]; simp
      obtain ⟨_, hn2, hn1, hord1, hord2⟩ := detOk_split _ _ _ (hLs ▸ hok)
      have hpos1 : ∀ x ∈ l1, x.1 ≠ i := fun x hx he => hn1 (he ▸ List.mem_map_of_mem (f := (·.1)) hx)
      have hpos2 : ∀ x ∈ l2, x.1 ≠ i := fun x hx he => hn2 (he ▸ List.mem_map_of_mem (f := (·.1)) hx)
      have hdisj : ∀ x ∈ l1, ∀ y ∈ l2, x.1 ≠ y.1 := by
        intro x hx y hy he
        have hnd' := hnodupL
        rw [hLs] at hnd'
        exact (List.nodup_append.1 hnd').2.2 x.1 (List.mem_map_of_mem (f := (·.1)) hx) y.1 (by simp only [List.mem_cons]; exact .inr (List.mem_map_of_mem (f := (·.1)) hy)) he
      have hahead : ∀ x ∈ l1, ∀ a, ops[x.1]? = some a → hits ops a o = true → x.1 ∈ pre := by
        intro x hx a ha hh
        have hb := hord1 x.1 (List.mem_map_of_mem (f := (·.1)) hx) a o ha hio hh
        exact hσ.ord pre i suf hpre x.1 (by rw [hLs]; simp only [List.mem_append]; exact .inl (List.mem_map_of_mem (f := (·.1)) hx)) hb
      have hbehind : ∀ x ∈ l2, ∀ b, ops[x.1]? = some b → hits ops o b = true → x.1 ∉ pre := by
        intro x hx b hb hh hjp
        have hm := hord2 x.1 (List.mem_map_of_mem (f := (·.1)) hx) o b hio hb hh
        obtain ⟨p1, p2, rfl⟩ := List.append_of_mem hjp
        have := hσ.ord p1 x.1 (p2 ++ i :: suf) (by rw [hpre]; simp) i him hm
        exact hil (by simp [this])
      have hreads : ∀ s ∈ readsOf ops o, foldS f l1 (fun _ => true) s = foldS f l (fun j => decide (j ∈ pre)) s := by
        intro s hs
        have e1 : foldS f l1 (fun _ => true) s = foldS f l (fun j => decide (j ∈ l1.map (·.1))) s := by
          have : foldS f l (fun j => decide (j ∈ l1.map (·.1))) = foldS (foldS f l1 fun j => decide (j ∈ l1.map (·.1))) ((i, o.dst, v) :: l2) fun j => decide (j ∈ l1.map (·.1)) := by
            rw [hle]; unfold foldS; rw [List.foldl_append]
          rw [this, foldS_keep (t := s) (S := fun j => decide (j ∈ l1.map (·.1))) ((i, o.dst, v) :: l2)]
          · exact foldS_at l1 f f rfl fun x hx _ => (decide_eq_true (List.mem_map_of_mem hx)).symm
          · intro x hx _
            refine decide_eq_false fun hm => ?_
            obtain ⟨y, hy, hye⟩ := List.mem_map.1 hm
            rcases List.mem_cons.1 hx with rfl | hx
            · exact hpos1 y hy hye
            · exact hdisj y hy x hx hye
        rw [e1]
        refine foldS_at l f f rfl ?_
        intro x hx hd
        obtain ⟨a, ha, hda⟩ := hdsts x hx
        have hdst : a.dst = some s := by rw [← hda]; exact hd
        rw [hle] at hx
        rcases List.mem_append.1 hx with h1 | h1
        · have hh : hits ops a o = true := by unfold hits; rw [hdst]; simp [hs]
          have hp := hahead x h1 a ha hh
          rw [decide_eq_true (List.mem_map_of_mem h1), decide_eq_true hp]
        · rcases List.mem_cons.1 h1 with rfl | h1
          · rw [decide_eq_false hn1, decide_eq_false hil]
          · have hh : hits ops o a = true := by
              unfold hits; rw [hdst]; simp only [Bool.or_eq_true]; exact .inr (by simpa using hs)
            have hp := hbehind x h1 a ha hh
            rw [decide_eq_false hp, decide_eq_false]
            intro hm
            obtain ⟨y, hy, hye⟩ := List.mem_map.1 hm
            exact hdisj y hy x h1 hye
      rw [List.filterMap_cons, hio]
      refine Gives.step (hgv.frame hreads) ?_
      have hadd := foldS_add (S := fun j => decide (j ∈ pre)) (i := i) (d := o.dst) (v := v) (l1 := l1) (l2 := l2) (f := f) (by
          intro x hx
          rcases List.mem_append.1 hx with h1 | h1
          · exact hpos1 x h1
          · exact hpos2 x h1) (by
          intro x hx hS hd
          obtain ⟨b, hb, hdb⟩ := hdsts x (by rw [hle]; simp [hx])
          cases hdi : o.dst with
          | none => rfl
          | some s =>
            exfalso
            have hh : hits ops o b = true := by
              unfold hits; rw [hdi, ← hdb, hd, hdi]; simp
            exact hbehind x hx b hb hh (by simpa using hS))
      rw [← hle] at hadd
      rw [← hadd]
      have hS : (fun j => j == i || decide (j ∈ pre)) = fun j => decide (j ∈ pre ++ [i]) := by
        funext j
        by_cases hji : j = i
        · simp [hji]
        · simp [hji]
      rw [hS]
      exact ih (pre ++ [i]) (by rw [hpre]; simp)
  have := key σ [] rfl
  have h0 : foldS f l (fun j => decide (j ∈ ([] : List Nat))) = f := by
    funext s
    exact foldS_keep l f fun x _ _ => by simp
  rwa [h0] at this

/-- The check of a part that has one order. -/
def textOk (ops : List Oper) : List Nat → Bool
  | [] => true
  | i :: L => !L.contains i && (L.all fun j => ((masks ops).getD j 0).testBit i) && textOk ops L
theorem RS_text {P : Program} {ops : List Oper} {L : List Nat} {f : Fr} {h : List Res} {K : Fr → List Res → Prop} (hok : textOk ops L = true)
    (hh : RL P ops (pick ops L) [] f h fun _ f h => K f h) : RS P ops L f h K := by
  intro σ hσ
  have hsorted : ∀ (M suf pre : List Nat), σ = pre ++ suf → (∀ i, i ∈ M → i ∈ L) → textOk ops M = true → (∀ i, i ∈ suf ↔ i ∈ M) → suf = M := by
    intro M
    induction M with
    | nil =>
      intro suf pre _ _ _ hm
      cases suf with
      | nil => rfl
      | cons x suf => have := (hm x).1 (by simp); simp at this
    | cons i M ih =>
      intro suf pre hpre hML hok hm
      rw [textOk] at hok
      simp only [Bool.and_eq_true, List.all_eq_true, Bool.not_eq_true', List.contains_eq_mem, decide_eq_false_iff_not] at hok
      have hnd := hσ.nodup
      rw [hpre] at hnd
      cases suf with
      | nil => have := (hm i).2 (by simp); simp at this
      | cons x suf =>
        have hxi : x = i := by
          rcases List.mem_cons.1 ((hm x).1 (by simp)) with h1 | h1
          · exact h1
          · exfalso
            have := hσ.ord pre x suf hpre i (hML i (by simp)) (hok.1.2 x h1)
            exact (List.nodup_append.1 hnd).2.2 i this i ((hm i).2 (by simp)) rfl
        subst hxi
        congr 1
        refine ih suf (pre ++ [x]) (by rw [hpre]; simp) (fun j hj => hML j (by simp [hj])) hok.2 fun j => ?_
        have hxs : x ∉ suf := (List.nodup_cons.1 (List.nodup_append.1 hnd).2.1).1
        constructor
        · intro hj
          rcases List.mem_cons.1 ((hm j).1 (by simp [hj])) with rfl | h1
          · exact absurd hj hxs
          · exact h1
        · intro hj
          rcases List.mem_cons.1 ((hm j).2 (by simp [hj])) with rfl | h1
          · exact absurd hj hok.1.1
          · exact h1
  have he := hsorted L σ [] rfl (fun i hi => hi) hok hσ.mem
  rw [he, ← pick_eq]
  exact hh

theorem ToO_nil {P : Program} {ops : List Oper} {h : List Res} {f : Fr} {C : Fr → Prop} (hc : C f) : ToO P ops h [] [] f C := hc
theorem Gives_of {P : Program} {ops : List Oper} {h : List Res} {d : Option Nat} {op : Op} {ty : TypeId} {pos : String} {aft : Array Edge} {f : Fr} {v : Value}
    (hv : ∀ Q : Exit → Fr → List Res → Prop, Q .normal (upd f 0 v) h → RO P op ty ⟨some 0, [], [], []⟩ f h Q) (K : Value → List Res → Prop) (hk : K v h) : hop P op ty f h K := by
  have := hv (fun _ f' h' => K (f' 0) h') (by simpa [upd] using hk)
  have he : (fun v h' => RV P ⟨some 0, [], [], []⟩ v f h' fun _ f' h' => K (f' 0) h') = K := by
    funext v h'
    show K (upd f 0 v 0) h' = K v h'
    simp [upd]
  unfold RO at this
  rw [he] at this
  exact this
theorem ToO_step {P : Program} {ops : List Oper} {h : List Res} {i : Nat} {L : List Nat} {d : Option Nat} {op : Op} {ty : TypeId} {pos : String} {aft : Array Edge} {rest : List Oper} {f : Fr} {v : Value} {C : Fr → Prop}
    (hv : ∀ Q : Exit → Fr → List Res → Prop, Q .normal (upd f 0 v) h → RO P op ty ⟨some 0, [], [], []⟩ f h Q) (hr : ToO P ops h L rest (put f d v) C) : ToO P ops h (i :: L) (⟨d, op, ty, pos, aft, none⟩ :: rest) f C :=
  ⟨v, fun K hk => Gives_of (d := d) (pos := pos) (aft := aft) (ops := ops) hv K hk, hr⟩
theorem ToO_guard {P : Program} {ops : List Oper} {h : List Res} {i : Nat} {L : List Nat} {d : Option Nat} {op : Op} {ty : TypeId} {pos : String} {aft : Array Edge} {j : Nat} {b : Bool} {rest : List Oper} {f : Fr} {v : Value} {C : Fr → Prop}
    (hg : gv ops j f = .bool b) (hv : ∀ Q : Exit → Fr → List Res → Prop, Q .normal (upd f 0 v) h → RO P op ty ⟨some 0, [], [], []⟩ f h Q) (hr : ToO P ops h L rest (put f d v) C) : ToO P ops h (i :: L) (⟨d, op, ty, pos, aft, some (j, b)⟩ :: rest) f C :=
  ⟨v, .inl ⟨hg, fun K hk => Gives_of (d := d) (pos := pos) (aft := aft) (ops := ops) hv K hk⟩, hr⟩
theorem ToO_skip {P : Program} {ops : List Oper} {h : List Res} {i : Nat} {L : List Nat} {d : Option Nat} {op : Op} {ty : TypeId} {pos : String} {aft : Array Edge} {j : Nat} {b : Bool} {rest : List Oper} {f : Fr} {C : Fr → Prop}
    (hg : gv ops j f = .bool (!b) ∨ gv ops j f = undef) (hr : ToO P ops h L rest (put f d undef) C) : ToO P ops h (i :: L) (⟨d, op, ty, pos, aft, some (j, b)⟩ :: rest) f C :=
  ⟨undef, .inr ⟨hg, rfl⟩, hr⟩
section
variable (ops : List Oper)
theorem pick_nil : pick ops [] = [] := rfl
def pickO (o : Option Oper) (r : List Oper) : List Oper := match o with | some o => o :: r | none => r
theorem pick_cons (i : Nat) (L : List Nat) : pick ops (i :: L) = pickO ops[i]? (pick ops L) := by
  rw [pick]; cases ops[i]? <;> rfl
theorem pickO_some (o : Oper) (r : List Oper) : pickO (some o) r = o :: r := rfl
end
attribute [go_sem] pick_nil pick_cons pickO_some
end H
end Go.Proofs.Ytldidoaagijnhaa
