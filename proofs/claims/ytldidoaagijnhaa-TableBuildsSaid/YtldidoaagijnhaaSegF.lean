/- A region that draws its order: every choice of the first. -/
import Derived.Test.YtldidoaagijnhaaSeg
namespace Go.Proofs.Ytldidoaagijnhaa
set_option linter.unusedSimpArgs false
set_option linter.unusedVariables false
open H
/-- What may come first. -/
def firsts (ops : List Oper) (L : List Nat) : List Nat := L.filter fun i => L.all fun j => !((masks ops).getD i 0).testBit j
def firstOk (ops : List Oper) (L cs : List Nat) : Bool := decide (firsts ops L = cs) && decide L.Nodup && !L.isEmpty && L.all fun i => decide (i < ops.length)
def RSall (P : Program) (ops : List Oper) (L : List Nat) (f : Fr) (h : List Res) (K : Fr → List Res → Prop) : List Nat → Prop
  | [] => True
  | i :: cs => RL P ops (pick ops [i]) [] f h (fun _ f h => RS P ops (L.erase i) f h K) ∧ RSall P ops L f h K cs
theorem RSall_at {P : Program} {ops : List Oper} {L : List Nat} {f : Fr} {h : List Res} {K : Fr → List Res → Prop} : ∀ {cs : List Nat}, RSall P ops L f h K cs → ∀ i ∈ cs, RL P ops (pick ops [i]) [] f h (fun _ f h => RS P ops (L.erase i) f h K)
  | _ :: _, ⟨h1, h2⟩, i, hi => by
    rcases List.mem_cons.1 hi with rfl | hm
    · exact h1
    · exact RSall_at h2 i hm
theorem RS_first {P : Program} {ops : List Oper} {L : List Nat} {f : Fr} {h : List Res} {K : Fr → List Res → Prop} (cs : List Nat) (hok : firstOk ops L cs = true) (ha : RSall P ops L f h K cs) : RS P ops L f h K := by
  unfold firstOk at hok
  simp only [Bool.and_eq_true, decide_eq_true_eq, Bool.not_eq_true', List.all_eq_true] at hok
  obtain ⟨⟨⟨h1, h2⟩, h3⟩, h4⟩ := hok
  intro σ hσ
  cases σ with
  | nil =>
    cases L with
    | nil => simp at h3
    | cons i L => have := (hσ.mem i).2 (by simp); simp at this
  | cons i suf =>
    have hi := (hσ.mem i).1 (by simp)
    have hf : i ∈ cs := by
      rw [← h1]
      unfold firsts
      rw [List.mem_filter]
      refine ⟨hi, ?_⟩
      rw [List.all_eq_true]
      intro j hj
      cases hb : ((masks ops).getD i 0).testBit j with
      | false => rfl
      | true => have := hσ.ord [] i suf rfl j hj hb; simp at this
    have hr := RSall_at ha i hf
    have hget : ops[i]? = some (ops[i]'(h4 i hi)) := List.getElem?_eq_getElem (h4 i hi)
    have hp : pick ops [i] = [ops[i]'(h4 i hi)] := by rw [pick_eq, List.filterMap_cons, hget]; rfl
    rw [hp] at hr
    have hr' : hl P ops [ops[i]'(h4 i hi)] f h (fun f h => RS P ops (L.erase i) f h K) := hr
    rw [List.filterMap_cons, hget]
    show hl P ops (ops[i]'(h4 i hi) :: suf.filterMap (ops[·]?)) f h K
    rw [hl_step] at hr' ⊢
    refine hstep_mono (fun v h' hk => ?_) hr'
    have hk' : RS P ops (L.erase i) (put f (ops[i]'(h4 i hi)).dst v) h' K := hk
    refine hk' suf ⟨(List.nodup_cons.1 hσ.nodup).2, fun j => ?_, fun pre k suf' he j hj hm => ?_⟩
    · rw [h2.mem_erase_iff]
      have hjm := hσ.mem j
      rw [List.mem_cons] at hjm
      constructor
      · intro hj
        refine ⟨fun e => ?_, hjm.1 (.inr hj)⟩
        subst e
        exact (List.nodup_cons.1 hσ.nodup).1 hj
      · rintro ⟨hne, hL⟩
        exact (hjm.2 hL).resolve_left hne
    · obtain ⟨hne, hL⟩ := h2.mem_erase_iff.1 hj
      have := hσ.ord (i :: pre) k suf' (by rw [he]; rfl) j hL hm
      exact (List.mem_cons.1 this).resolve_left hne
/-- What reads gives one value at a heap. -/
theorem hstep_reads (P : Program) (ops : List Oper) {o : Oper} (hf : readsB P o.op = true) (f : Fr) (h : List Res) : ∃ ov : Option Value, ∀ (K : Value → List Res → Prop), hstep P ops o f h K = wO ov fun v => K v h := by
  obtain ⟨ov, hv, _⟩ := hop_reads P o.type hf f h
  unfold hstep
  split
  · exact ⟨ov, hv⟩
  · rename_i j b hg
    obtain ⟨ow, hw⟩ := hguard_wO (gv ops j f) b ov undef (fun _ => True)
    exact ⟨ow, fun K => by rw [hv]; exact hw fun v => K v h⟩
theorem hl_swapR {P : Program} {ops : List Oper} {x y : Oper} {t : List Oper} {f : Fr} {h : List Res} {K : Fr → List Res → Prop} (hno : hits ops x y = false) (hx : readsB P x.op = true) (hy : readsB P y.op = true)
    (hh : hl P ops (y :: x :: t) f h K) : hl P ops (x :: y :: t) f h K := by
  obtain ⟨n1, n2, n3⟩ := hits_no hno
  simp only [hl_step] at hh ⊢
  obtain ⟨ovx, hvx⟩ := hstep_reads P ops hx f h
  obtain ⟨ovy, hvy⟩ := hstep_reads P ops hy f h
  rw [hvy] at hh
  obtain ⟨u, hu, hh⟩ := hh
  rw [hstep_frame (g := f) (reads_put n2), hvx] at hh
  obtain ⟨v, hv, hk⟩ := hh
  rw [hvx]
  refine ⟨v, hv, ?_⟩
  show hstep P ops y (put f x.dst v) h _
  rw [hstep_frame (g := f) (reads_put n1), hvy]
  refine ⟨u, hu, ?_⟩
  show hl P ops t (put (put f x.dst v) y.dst u) h K
  rw [put_comm _ _ _ _ _ n3]
  exact hk
theorem hl_moveR {P : Program} {ops : List Oper} {x : Oper} : ∀ (l t : List Oper) (f : Fr) (h : List Res) (K : Fr → List Res → Prop), (∀ y ∈ l, hits ops x y = false ∧ (((total x.op = true ∨ floats P y.op = true) ∨ (allocB x = true ∧ readsB P y.op = true)) ∨ (readsB P x.op = true ∧ readsB P y.op = true))) →
    hl P ops (l ++ x :: t) f h K → hl P ops (x :: (l ++ t)) f h K
  | [], _, _, _, _, _, hh => hh
  | y :: l, t, f, h, K, hl_, hh => by
    have hrest : hl P ops (y :: x :: (l ++ t)) f h K := hl_mono_rest (fun f h hh => hl_moveR l t f h K (fun z hz => hl_ z (by simp [hz])) hh) hh
    rcases (hl_ y (by simp)).2 with (h1 | h1) | h1
    · exact hl_swap (hl_ y (by simp)).1 h1 hrest
    · exact hl_alloc (hl_ y (by simp)).1 h1.1 h1.2 hrest
    · exact hl_swapR (hl_ y (by simp)).1 h1.1 h1.2 hrest

/-- The check of a cut. -/
def cutOkR (P : Program) (ops : List Oper) (L L1 L2 : List Nat) : Bool :=
  let m := masks ops
  (L.all fun i => L1.contains i || L2.contains i) && (L1.all fun i => L.contains i && decide (i < ops.length) && !L2.contains i) && (L2.all fun i => L.contains i && decide (i < ops.length)) &&
  (L2.all fun j => L1.all fun i => (m.getD j 0).testBit i || (match ops[j]?, ops[i]? with
    | some b, some a => !hits ops b a && (((total b.op || floats P a.op) || (allocB b && readsB P a.op)) || (readsB P b.op && readsB P a.op))
    | _, _ => false))

theorem RS_cutR {P : Program} {ops : List Oper} {L : List Nat} {f : Fr} {h : List Res} {K : Fr → List Res → Prop} (L1 L2 : List Nat) (hok : cutOkR P ops L L1 L2 = true)
    (hr : RS P ops L1 f h fun f h => RS P ops L2 f h K) : RS P ops L f h K := by
  unfold cutOkR at hok
  simp only [Bool.and_eq_true, decide_eq_true_eq, List.all_eq_true, Bool.or_eq_true, List.contains_iff_mem, Bool.not_eq_true', List.contains_eq_mem, decide_eq_false_iff_not] at hok
  obtain ⟨⟨⟨hL, hL1⟩, hL2⟩, hc⟩ := hok
  intro σ hσ
  have hlen : ∀ i, i ∈ L → i < ops.length := by
    intro i hi
    rcases hL i hi with h1 | h1
    · exact (hL1 i h1).1.2
    · exact (hL2 i h1).2
  have hget : ∀ i, i ∈ L → ops[i]? = some (ops[i]?.getD default) := by
    intro i hi'
    rw [List.getElem?_eq_getElem (hlen i hi')]; rfl
  -- the two parts
  have hsplit : ∀ (suf pre : List Nat), σ = pre ++ suf → ∀ f h, hl P ops ((suf.filter fun i => decide (i ∈ L1)).filterMap (ops[·]?) ++ (suf.filter fun i => !decide (i ∈ L1)).filterMap (ops[·]?)) f h K → hl P ops (suf.filterMap (ops[·]?)) f h K := by
    intro suf
    induction suf with
    | nil => intro _ _ f h hh; exact hh
    | cons x suf ih =>
      intro pre hpre f h hh
      have hx := (hσ.mem x).1 (by rw [hpre]; simp)
      have ih' := ih (pre ++ [x]) (by rw [hpre]; simp)
      rw [List.filterMap_cons, hget x hx]
      refine hl_mono_rest ih' ?_
      by_cases hxk : x ∈ L1
      · rw [List.filter_cons_of_pos (by simpa using hxk), List.filter_cons_of_neg (by simpa using hxk), List.filterMap_cons, hget x hx] at hh
        exact hh
      · rw [List.filter_cons_of_neg (by simpa using hxk), List.filter_cons_of_pos (by simpa using hxk), List.filterMap_cons (a := x), hget x hx] at hh
        have hx2 : x ∈ L2 := (hL x hx).resolve_left hxk
        refine hl_moveR _ _ _ _ _ (fun y hy => ?_) hh
        obtain ⟨i, hi', hiy⟩ := List.mem_filterMap.1 hy
        rw [List.mem_filter] at hi'
        have hik : i ∈ L1 := by simpa using hi'.2
        have him := (hσ.mem i).1 (by rw [hpre]; simp [hi'.1])
        have hno : ((masks ops).getD x 0).testBit i = false := by
          cases hb : ((masks ops).getD x 0).testBit i with
          | false => rfl
          | true =>
            have := hσ.ord pre x suf hpre i him hb
            have hnd := hσ.nodup
            rw [hpre] at hnd
            have := (List.nodup_append.1 hnd).2.2 i this i (by simp [hi'.1])
            exact absurd rfl this
        rcases hc x hx2 i hik with h1 | h1
        · rw [hno] at h1; cases h1
        · rw [hget x hx, hiy] at h1
          simpa only [Bool.and_eq_true, Bool.or_eq_true, Bool.not_eq_true'] using h1
  have hsub : ∀ (p : Nat → Bool) (M : List Nat), (∀ i, i ∈ L → (p i = true ↔ i ∈ M)) → (∀ i, i ∈ M → i ∈ L) → Seg ops M (σ.filter p) := by
    intro p M hp hM
    refine ⟨hσ.nodup.filter _, fun i => ?_, fun pre i suf he j hj hm => ?_⟩
    · rw [List.mem_filter, hσ.mem]
      constructor
      · rintro ⟨h1, h2⟩; exact (hp i h1).1 h2
      · intro h1; exact ⟨hM i h1, (hp i (hM i h1)).2 h1⟩
    · obtain ⟨l1, l2, e1, e2, e3⟩ := List.filter_eq_append_iff.1 he
      obtain ⟨m1, m2, f1, f2, f3, f4⟩ := List.filter_eq_cons_iff.1 e3
      have := hσ.ord (l1 ++ m1) i m2 (by rw [e1, f1]; simp) j (hM j hj) hm
      have hpj := (hp j (hM j hj)).2 hj
      rcases List.mem_append.1 this with h | h
      · rw [← e2, List.mem_filter]; exact ⟨h, hpj⟩
      · exact absurd hpj (by simpa using f2 j h)
  have s1 := hsub (fun i => decide (i ∈ L1)) L1 (fun i _ => by simp) (fun i hi => (hL1 i hi).1.1)
  have s2 := hsub (fun i => !decide (i ∈ L1)) L2 (fun i hi => by
    simp only [Bool.not_eq_true', decide_eq_false_iff_not]
    exact ⟨fun h => (hL i hi).resolve_left h, fun h h1 => (hL1 i h1).2 h⟩) (fun i hi => (hL2 i hi).1)
  refine hsplit σ [] rfl f h ?_
  have h1 := hr _ s1
  have happ : ∀ (l1 l2 : List Oper) (f : Fr) (h : List Res) (K : Fr → List Res → Prop), hl P ops l1 f h (fun f h => hl P ops l2 f h K) → hl P ops (l1 ++ l2) f h K := by
    intro l1
    induction l1 with
    | nil => intro l2 f h K hh; exact hh
    | cons o l1 ih =>
      intro l2 f h K hh
      rw [List.cons_append, hl_step]
      rw [hl_step] at hh
      exact hstep_mono (fun v h' hk => ih _ _ _ _ hk) hh
  have hlm : ∀ (l : List Oper) (f : Fr) (h : List Res) (K K' : Fr → List Res → Prop), (∀ f h, K f h → K' f h) → hl P ops l f h K → hl P ops l f h K' := by
    intro l
    induction l with
    | nil => intro f h K K' hk hh; exact hk _ _ hh
    | cons o l ih =>
      intro f h K K' hk hh
      rw [hl_step] at hh ⊢
      exact hstep_mono (fun v h' hh => ih _ _ _ _ hk hh) hh
  exact happ _ _ _ _ _ (hlm _ _ _ _ _ (fun f h hh => hh _ s2) h1)

theorem RS_via {P : Program} {ops : List Oper} {L : List Nat} {f : Fr} {h : List Res} {K : Fr → List Res → Prop} (L2 : List Nat) (I : Fr → List Res → Prop) (h1 : ∀ K', (∀ f h, I f h → RS P ops L2 f h K') → RS P ops L f h K') (h2 : ∀ f h, I f h → RS P ops L2 f h K) : RS P ops L f h K := h1 K h2
end Go.Proofs.Ytldidoaagijnhaa
