/- Regions that draw their order, by what is known behind each operation: each operation is shown once, whatever was done ahead of it. -/
import Derived.Test.YtldidoaagijnhaaSegF
import Derived.Test.YtldidoaagijnhaaJoin
namespace Go.Proofs.Ytldidoaagijnhaa
set_option linter.unusedSimpArgs false
set_option linter.unusedVariables false
namespace H
open Go
/-- A list that has grown at its front: what was read is read still. -/
structure Grew (h0 h : List Res) : Prop where
  app : ∃ e, h = e ++ h0
  look : ∀ ad v, look ad h0 = some v → look ad h = some v
  lookN : ∀ ad n v, lookN ad n h0 = some v → lookN ad n h = some v
theorem Grew.refl (h : List Res) : Grew h h := ⟨⟨[], rfl⟩, fun _ _ e => e, fun _ _ _ e => e⟩
theorem Grew.trans {a b c : List Res} (h : Grew a b) (k : Grew b c) : Grew a c := by
  obtain ⟨e1, rfl⟩ := h.app
  obtain ⟨e2, rfl⟩ := k.app
  exact ⟨⟨e2 ++ e1, by simp⟩, fun ad v e => k.look ad v (h.look ad v e), fun ad n v e => k.lookN ad n v (h.lookN ad n v e)⟩
theorem Grew.cells {h : List Res} {g : Nat} (t : TypeId) (cs : Array Value) (hg : below g h) : Grew h (.cells g t cs :: h) := by
  refine ⟨⟨[_], rfl⟩, fun ad v e => ?_, fun ad n v e => ?_⟩
  · have := look_fresh (t := t) (cs := cs) hg e
    rw [H.look, if_neg this]; exact e
  · have := lookN_fresh (t := t) (cs := cs) hg e
    rw [H.lookN, if_neg this]; exact e
theorem Grew.sem {h : List Res} (fp : Nat → Prop) (p : World → Prop) (st : Stable fp p) : Grew h (.sem fp p st :: h) := ⟨⟨[_], rfl⟩, fun _ _ e => e, fun _ _ _ e => e⟩
theorem Grew.sub {h0 h : List Res} (hg : Grew h0 h) : h0.Sublist h := by
  obtain ⟨e, rfl⟩ := hg.app
  exact List.sublist_append_right _ _
theorem Grew.sat {w : World} {h0 h : List Res} (hg : Grew h0 h) (hs : Sat w h) : Sat w h0 := hs.sub hg.sub
theorem Grew.mem {h0 h : List Res} (hg : Grew h0 h) {r : Res} (hr : r ∈ h0) : r ∈ h := hg.sub.subset hr

/-- Is j done whenever i is to be done? -/
def ahead (ops : List Oper) (L : List Nat) (i j : Nat) : Bool := L.contains j && ((masks ops).getD i 0).testBit j
/-- What is known at operation i. -/
structure FlowAt (ops : List Oper) (L : List Nat) (D : Nat → Nat) (f0 : Fr) (h0 : List Res) (S : Nat → Value → Prop) (R : Nat → Value → List Res) (i : Nat) (f : Fr) (h : List Res) : Prop where
  grew : Grew h0 h
  old : ∀ s, (L.all fun j => D j != s) = true → f s = f0 s
  val : ∀ j, ahead ops L i j = true → S j (f (D j))
  res : ∀ j, ahead ops L i j = true → ∀ r ∈ R j (f (D j)), r ∈ h
/-- What an operation is to leave. -/
def FlowTo (f : Fr) (h : List Res) (d : Nat) (S : Value → Prop) (R : Value → List Res) (f' : Fr) (h' : List Res) : Prop := Grew h h' ∧ ∃ v, f' = upd f d v ∧ S v ∧ ∀ r ∈ R v, r ∈ h'
theorem FlowTo.of {f : Fr} {h h' : List Res} {d : Nat} {S : Value → Prop} {R : Value → List Res} {v : Value} (hg : Grew h h') (hS : S v) (hR : ∀ r ∈ R v, r ∈ h') : FlowTo f h d S R (upd f d v) h' := ⟨hg, v, rfl, hS, hR⟩
def FlowAll (P : Program) (ops : List Oper) (L : List Nat) (D : Nat → Nat) (f0 : Fr) (h0 : List Res) (S : Nat → Value → Prop) (R : Nat → Value → List Res) : List Nat → Prop
  | [] => True
  | i :: cs => (∀ f h, FlowAt ops L D f0 h0 S R i f h → RL P ops (pick ops [i]) [] f h fun _ f' h' => FlowTo f h (D i) (S i) (R i) f' h') ∧ FlowAll P ops L D f0 h0 S R cs
theorem FlowAll_at {P : Program} {ops : List Oper} {L : List Nat} {D : Nat → Nat} {f0 : Fr} {h0 : List Res} {S : Nat → Value → Prop} {R : Nat → Value → List Res} : ∀ {cs : List Nat}, FlowAll P ops L D f0 h0 S R cs → ∀ i ∈ cs,
    ∀ f h, FlowAt ops L D f0 h0 S R i f h → RL P ops (pick ops [i]) [] f h fun _ f' h' => FlowTo f h (D i) (S i) (R i) f' h'
  | _ :: _, ⟨h1, h2⟩, i, hi => by
    rcases List.mem_cons.1 hi with rfl | hm
    · exact h1
    · exact FlowAll_at h2 i hm
def flowOk (ops : List Oper) (L : List Nat) (D : Nat → Nat) : Bool := (L.all fun i => decide (i < ops.length) && ((ops[i]?).bind (·.dst) == some (D i))) && decide (L.map D).Nodup
theorem nodup_map_inj {D : Nat → Nat} : ∀ {L : List Nat}, (L.map D).Nodup → ∀ i ∈ L, ∀ j ∈ L, D i = D j → i = j
  | [], _, _, hi, _, _, _ => absurd hi (by simp)
  | x :: L, h, i, hi, j, hj, e => by
    rw [List.map_cons, List.nodup_cons] at h
    rcases List.mem_cons.1 hi with h1 | h1
    · rcases List.mem_cons.1 hj with h2 | h2
      · rw [h1, h2]
      · rw [h1] at e
        exact absurd (List.mem_map.2 ⟨j, h2, e.symm⟩) h.1
    · rcases List.mem_cons.1 hj with h2 | h2
      · rw [h2] at e
        exact absurd (List.mem_map.2 ⟨i, h1, e⟩) h.1
      · exact nodup_map_inj h.2 i h1 j h2 e
theorem RS_flow {P : Program} {ops : List Oper} {L : List Nat} {f0 : Fr} {h0 : List Res} {K : Fr → List Res → Prop} (D : Nat → Nat) (S : Nat → Value → Prop) (R : Nat → Value → List Res) (hok : flowOk ops L D = true)
    (ha : FlowAll P ops L D f0 h0 S R L)
    (hK : ∀ f h, Grew h0 h → (∀ s, (L.all fun j => D j != s) = true → f s = f0 s) → (∀ j, j ∈ L → S j (f (D j))) → (∀ j, j ∈ L → ∀ r ∈ R j (f (D j)), r ∈ h) → K f h) : RS P ops L f0 h0 K := by
  unfold flowOk at hok
  simp only [Bool.and_eq_true, decide_eq_true_eq, List.all_eq_true, beq_iff_eq] at hok
  obtain ⟨hL, hnd⟩ := hok
  intro σ hσ
  have hinj : ∀ i ∈ L, ∀ j ∈ L, D i = D j → i = j := by
    exact nodup_map_inj hnd
  have key : ∀ (suf pre : List Nat), σ = pre ++ suf → ∀ f h, Grew h0 h → (∀ s, (∀ j ∈ pre, D j ≠ s) → f s = f0 s) → (∀ j, j ∈ pre → S j (f (D j))) → (∀ j, j ∈ pre → ∀ r ∈ R j (f (D j)), r ∈ h) → hl P ops (suf.filterMap (ops[·]?)) f h K := by
    intro suf
    induction suf with
    | nil =>
      intro pre hpre f h hg hf hS hR
      rw [List.append_nil] at hpre
      subst hpre
      refine hK f h hg (fun s hs => hf s fun j hj => ?_) (fun j hj => hS j ((hσ.mem j).2 hj)) (fun j hj => hR j ((hσ.mem j).2 hj))
      have := (List.all_eq_true.1 hs) j ((hσ.mem j).1 hj)
      simpa using this
    | cons i suf ih =>
      intro pre hpre f h hg hf hS hR
      have hiσ : i ∈ σ := by rw [hpre]; simp
      have hiL : i ∈ L := (hσ.mem i).1 hiσ
      have hpm : ∀ j ∈ pre, j ∈ σ := fun j hj => by rw [hpre]; simp [hj]
      obtain ⟨hlt, hdst⟩ := hL i hiL
      have hip : i ∉ pre := by
        have hnd' := hσ.nodup
        rw [hpre] at hnd'
        exact fun hm => (List.nodup_append.1 hnd').2.2 i hm i (by simp) rfl
      have hahead : ∀ j, ahead ops L i j = true → j ∈ pre := by
        intro j hj
        unfold ahead at hj
        simp only [Bool.and_eq_true, List.contains_eq_mem, decide_eq_true_eq] at hj
        exact hσ.ord pre i suf hpre j hj.1 hj.2
      have hget : ops[i]? = some (ops[i]'hlt) := List.getElem?_eq_getElem hlt
      have hd : (ops[i]'hlt).dst = some (D i) := by rw [hget] at hdst; exact hdst
      have hr := FlowAll_at ha i hiL f h ⟨hg, fun s hs => hf s fun j hj => by
        have := (List.all_eq_true.1 hs) j ((hσ.mem j).1 (hpm j hj))
        simpa using this, fun j hj => hS j (hahead j hj), fun j hj => hR j (hahead j hj)⟩
      have hp : pick ops [i] = [ops[i]'hlt] := by rw [pick_eq, List.filterMap_cons, hget]; rfl
      rw [hp] at hr
      have hr' : hl P ops [ops[i]'hlt] f h (fun f' h' => FlowTo f h (D i) (S i) (R i) f' h') := hr
      rw [List.filterMap_cons, hget]
      show hl P ops (ops[i]'hlt :: suf.filterMap (ops[·]?)) f h K
      rw [hl_step] at hr' ⊢
      refine hstep_mono (fun v h' hk => ?_) hr'
      have hk' : FlowTo f h (D i) (S i) (R i) (put f (ops[i]'hlt).dst v) h' := hk
      obtain ⟨hg', u, he, hSu, hRu⟩ := hk'
      rw [he]
      have hat : ∀ j ∈ pre, upd f (D i) u (D j) = f (D j) := by
        intro j hj
        have : ¬ D j = D i := fun e => hip (hinj j ((hσ.mem j).1 (hpm j hj)) i hiL e ▸ hj)
        simp [upd, this]
      have hat2 : upd f (D i) u (D i) = u := by simp [upd]
      refine ih (pre ++ [i]) (by rw [hpre]; simp) _ _ (hg.trans hg') (fun s hs => ?_) (fun j hj => ?_) (fun j hj => ?_)
      · have h1 := hs i (by simp)
        have : ¬ s = D i := fun e => h1 e.symm
        simp only [upd, if_neg this]
        exact hf s fun j hj => hs j (by simp [hj])
      · rcases List.mem_append.1 hj with hj | hj
        · rw [hat j hj]; exact hS j hj
        · obtain rfl : j = i := by simpa using hj
          rw [hat2]; exact hSu
      · rcases List.mem_append.1 hj with hj | hj
        · rw [hat j hj]; exact fun r hr => hg'.mem (hR j hj r hr)
        · obtain rfl : j = i := by simpa using hj
          rw [hat2]; exact hRu
  exact key σ [] rfl f0 h0 (Grew.refl _) (fun _ _ => rfl) (fun j hj => by simp at hj) (fun j hj => by simp at hj)
/-- A loop, up to where it is left; from there on, what is known there. -/
theorem RLoop_join {P : Program} {c : Code} {id : Nat} {s : List Kn} {f : Fr} {h : List Res} {Q : Exit → Fr → List Res → Prop} (I : Fr → List Res → Prop) (h1 : ∀ J : Fr → List Res → Prop, (∀ f h, I f h → J f h) → RLoop P c [.blk id] f h (gthen J (cont P s Q))) (hk : ∀ f h, I f h → RN P s f h Q) : RLoop P c (.blk id :: s) f h Q :=
  hc_mono (.loop c) (gblock_mono fun e f h hh => by cases e <;> first | exact hk f h hh | exact hh) f h (h1 I fun _ _ h => h)
end H
end Go.Proofs.Ytldidoaagijnhaa
