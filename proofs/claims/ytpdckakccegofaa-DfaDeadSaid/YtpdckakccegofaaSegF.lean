/- A region that draws its order: every choice of the first. -/
import Derived.Test.YtpdckakccegofaaSeg
namespace Go.Proofs.Ytpdckakccegofaa
set_option linter.unusedSimpArgs false
set_option linter.unusedVariables false
open H
/-- What may come first. -/
def firsts (ops : List Oper) (L : List Nat) : List Nat := L.filter fun i => L.all fun j => !((masks ops).getD i 0).testBit j
def firstOk (ops : List Oper) (L cs : List Nat) : Bool := decide (firsts ops L = cs) && decide L.Nodup && !L.isEmpty && L.all fun i => decide (i < ops.length)
def RSall (P : Program) (ops : List Oper) (L : List Nat) (f : Fr) (h : List Res) (K : Fr → List Res → Prop) : List Nat → Prop
  | [] => True
  | i :: cs => RL P ops (pick ops [i]) [] f h (fun _ f h => RS P ops (L.erase i) f h K) ∧ RSall P ops L f h K cs
theorem RSall_at {P : Program} {ops : List Oper} {L : List Nat} {f : Fr} {h : List Res} {K : Fr → List Res → Prop} : ∀ {cs : List Nat}, RSall P ops L f h K cs → ∀ i ∈ cs, RL P ops (pick ops [i]) [] f h (fun _ f h => RS P ops (L.erase i) f h K)
  | _ :: _, ⟨h1, h2⟩, i, hi => by
    rcases List.mem_cons.1 hi with rfl | hm
    · exact h1
    · exact RSall_at h2 i hm
theorem RS_first {P : Program} {ops : List Oper} {L : List Nat} {f : Fr} {h : List Res} {K : Fr → List Res → Prop} (cs : List Nat) (hok : firstOk ops L cs = true) (ha : RSall P ops L f h K cs) : RS P ops L f h K := by
  unfold firstOk at hok
  simp only [Bool.and_eq_true, decide_eq_true_eq, Bool.not_eq_true', List.all_eq_true] at hok
  obtain ⟨⟨⟨h1, h2⟩, h3⟩, h4⟩ := hok
  intro σ hσ
  cases σ with
  | nil =>
    cases L with
    | nil => simp at h3
    | cons i L => have := (hσ.mem i).2 (by simp); simp at this
  | cons i suf =>
    have hi := (hσ.mem i).1 (by simp)
    have hf : i ∈ cs := by
      rw [← h1]
      unfold firsts
      rw [List.mem_filter]
      refine ⟨hi, ?_⟩
      rw [List.all_eq_true]
      intro j hj
      cases hb : ((masks ops).getD i 0).testBit j with
      | false => rfl
      | true => have := hσ.ord [] i suf rfl j hj hb; simp at this
    have hr := RSall_at ha i hf
    have hget : ops[i]? = some (ops[i]'(h4 i hi)) := List.getElem?_eq_getElem (h4 i hi)
    have hp : pick ops [i] = [ops[i]'(h4 i hi)] := by rw [pick_eq, List.filterMap_cons, hget]; rfl
    rw [hp] at hr
    have hr' : hl P ops [ops[i]'(h4 i hi)] f h (fun f h => RS P ops (L.erase i) f h K) := hr
    rw [List.filterMap_cons, hget]
    show hl P ops (ops[i]'(h4 i hi) :: suf.filterMap (ops[·]?)) f h K
    rw [hl_step] at hr' ⊢
    refine hstep_mono (fun v h' hk => ?_) hr'
    have hk' : RS P ops (L.erase i) (put f (ops[i]'(h4 i hi)).dst v) h' K := hk
    refine hk' suf ⟨(List.nodup_cons.1 hσ.nodup).2, fun j => ?_, fun pre k suf' he j hj hm => ?_⟩
    · rw [h2.mem_erase_iff]
      have hjm := hσ.mem j
      rw [List.mem_cons] at hjm
      constructor
      · intro hj
        refine ⟨fun e => ?_, hjm.1 (.inr hj)⟩
        subst e
        exact (List.nodup_cons.1 hσ.nodup).1 hj
      · rintro ⟨hne, hL⟩
        exact (hjm.2 hL).resolve_left hne
    · obtain ⟨hne, hL⟩ := h2.mem_erase_iff.1 hj
      have := hσ.ord (i :: pre) k suf' (by rw [he]; rfl) j hL hm
      exact (List.mem_cons.1 this).resolve_left hne
theorem RS_via {P : Program} {ops : List Oper} {L : List Nat} {f : Fr} {h : List Res} {K : Fr → List Res → Prop} (L2 : List Nat) (I : Fr → List Res → Prop) (h1 : ∀ K', (∀ f h, I f h → RS P ops L2 f h K') → RS P ops L f h K') (h2 : ∀ f h, I f h → RS P ops L2 f h K) : RS P ops L f h K := h1 K h2
end Go.Proofs.Ytpdckakccegofaa
