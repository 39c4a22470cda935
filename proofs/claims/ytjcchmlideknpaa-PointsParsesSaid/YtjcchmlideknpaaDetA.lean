/- Regions that draw their order and make one variable among what turns nothing. -/
import Derived.Test.YtjcchmlideknpaaSegF
namespace Go.Proofs.Ytjcchmlideknpaa
set_option linter.unusedSimpArgs false
set_option linter.unusedVariables false
namespace H
open Go
/-- One step of a chosen order. -/
theorem det_step {P : Program} {ops : List Oper} {L : List Nat} {f g : Fr} {h : List Res} {l : List Done} (hok : detOk ops L = true) (htr : TrL P ops h L f l g) (pre : List Nat) (i : Nat) (him : i ∈ L) (hil : i ∉ pre)
    (H1 : ∀ j ∈ L, ((masks ops).getD i 0).testBit j = true → j ∈ pre) (H2 : ∀ j ∈ L, j ∈ pre → ((masks ops).getD j 0).testBit i = true → False) :
    ∃ o v, ops[i]? = some o ∧ Gives P ops o (foldS f l fun j => decide (j ∈ pre)) h v ∧ put (foldS f l fun j => decide (j ∈ pre)) o.dst v = foldS f l fun j => decide (j ∈ pre ++ [i]) := by
  obtain ⟨hnodupL, hltL⟩ := detOk_nodup L hok
  obtain ⟨hnums, hdsts⟩ := htr.nums
  obtain ⟨o, v, l1, l2, hio, hle, hgv⟩ := htr.at_ i him
  have hLs : L = l1.map (·.1) ++ i :: l2.map (·.1) := by rw [← hnums, hle]; simp
  obtain ⟨_, hn2, hn1, hord1, hord2⟩ := detOk_split _ _ _ (hLs ▸ hok)
  have hpos1 : ∀ x ∈ l1, x.1 ≠ i := fun x hx he => hn1 (he ▸ List.mem_map_of_mem (f := (·.1)) hx)
  have hpos2 : ∀ x ∈ l2, x.1 ≠ i := fun x hx he => hn2 (he ▸ List.mem_map_of_mem (f := (·.1)) hx)
  have hdisj : ∀ x ∈ l1, ∀ y ∈ l2, x.1 ≠ y.1 := by
    intro x hx y hy he
    have hnd' := hnodupL
    rw [hLs] at hnd'
    exact (List.nodup_append.1 hnd').2.2 x.1 (List.mem_map_of_mem (f := (·.1)) hx) y.1 (by simp only [List.mem_cons]; exact .inr (List.mem_map_of_mem (f := (·.1)) hy)) he
  have hahead : ∀ x ∈ l1, ∀ a, ops[x.1]? = some a → hits ops a o = true → x.1 ∈ pre := by
    intro x hx a ha hh
    have hb := hord1 x.1 (List.mem_map_of_mem (f := (·.1)) hx) a o ha hio hh
    exact H1 x.1 (by rw [hLs]; simp only [List.mem_append]; exact .inl (List.mem_map_of_mem (f := (·.1)) hx)) hb
  have hbehind : ∀ x ∈ l2, ∀ b, ops[x.1]? = some b → hits ops o b = true → x.1 ∉ pre := by
    intro x hx b hb hh hjp
    have hm := hord2 x.1 (List.mem_map_of_mem (f := (·.1)) hx) o b hio hb hh
    exact H2 x.1 (by rw [hLs]; simp only [List.mem_append, List.mem_cons]; exact .inr (.inr (List.mem_map_of_mem (f := (·.1)) hx))) hjp hm
  have hreads : ∀ s ∈ readsOf ops o, foldS f l1 (fun _ => true) s = foldS f l (fun j => decide (j ∈ pre)) s := by
    intro s hs
    have e1 : foldS f l1 (fun _ => true) s = foldS f l (fun j => decide (j ∈ l1.map (·.1))) s := by
      have : foldS f l (fun j => decide (j ∈ l1.map (·.1))) = foldS (foldS f l1 fun j => decide (j ∈ l1.map (·.1))) ((i, o.dst, v) :: l2) fun j => decide (j ∈ l1.map (·.1)) := by
        rw [hle]; unfold foldS; rw [List.foldl_append]
      rw [this, foldS_keep (t := s) (S := fun j => decide (j ∈ l1.map (·.1))) ((i, o.dst, v) :: l2)]
      · exact foldS_at l1 f f rfl fun x hx _ => (decide_eq_true (List.mem_map_of_mem hx)).symm
      · intro x hx _
        refine decide_eq_false fun hm => ?_
        obtain ⟨y, hy, hye⟩ := List.mem_map.1 hm
        rcases List.mem_cons.1 hx with rfl | hx
        · exact hpos1 y hy hye
        · exact hdisj y hy x hx hye
    rw [e1]
    refine foldS_at l f f rfl ?_
    intro x hx hd
    obtain ⟨a, ha, hda⟩ := hdsts x hx
    have hdst : a.dst = some s := by rw [← hda]; exact hd
    rw [hle] at hx
    rcases List.mem_append.1 hx with h1 | h1
    · have hh : hits ops a o = true := by unfold hits; rw [hdst]; simp [hs]
      have hp := hahead x h1 a ha hh
      rw [decide_eq_true (List.mem_map_of_mem h1), decide_eq_true hp]
    · rcases List.mem_cons.1 h1 with rfl | h1
      · rw [decide_eq_false hn1, decide_eq_false hil]
      · have hh : hits ops o a = true := by
          unfold hits; rw [hdst]; simp only [Bool.or_eq_true]; exact .inr (by simpa using hs)
        have hp := hbehind x h1 a ha hh
        rw [decide_eq_false hp, decide_eq_false]
        intro hm
        obtain ⟨y, hy, hye⟩ := List.mem_map.1 hm
        exact hdisj y hy x h1 hye
  refine ⟨o, v, hio, hgv.frame hreads, ?_⟩
  have hadd := foldS_add (S := fun j => decide (j ∈ pre)) (i := i) (d := o.dst) (v := v) (l1 := l1) (l2 := l2) (f := f) (by
      intro x hx
      rcases List.mem_append.1 hx with h1 | h1
      · exact hpos1 x h1
      · exact hpos2 x h1) (by
      intro x hx hS hd
      obtain ⟨b, hb, hdb⟩ := hdsts x (by rw [hle]; simp [hx])
      cases hdi : o.dst with
      | none => rfl
      | some s =>
        exfalso
        have hh : hits ops o b = true := by
          unfold hits; rw [hdi, ← hdb, hd, hdi]; simp
        exact hbehind x hx b hb hh (by simpa using hS))
  rw [← hle] at hadd
  rw [← hadd]
  have hS : (fun j => j == i || decide (j ∈ pre)) = fun j => decide (j ∈ pre ++ [i]) := by
    funext j
    by_cases hji : j = i
    · simp [hji]
    · simp [hji]
  rw [hS]
/-- A run's value at a slot that is written once. -/
theorem TrL.keep {P : Program} {ops : List Oper} {h : List Res} {L : List Nat} {f g : Fr} {l : List Done} (ht : TrL P ops h L f l g) (s : Nat) : (∀ i ∈ L, (ops[i]?).bind (·.dst) ≠ some s) → g s = f s := by
  induction ht with
  | nil => intro _; rfl
  | @cons i o rest f v l g ho hv hr ih =>
    intro hn
    rw [ih fun j hj => hn j (by simp [hj]), put_at, if_neg]
    have := hn i (by simp)
    rw [ho] at this
    exact this
/-- Two runs that come to one frame did the same. -/
theorem TrL.same {P : Program} {ops : List Oper} {h1 h2 : List Res} {L : List Nat} {f1 f2 g : Fr} {l1 l2 : List Done} (ht : TrL P ops h1 L f1 l1 g) : TrL P ops h2 L f2 l2 g → (L.map fun i => (ops[i]?).bind (·.dst)).Nodup → (∀ i ∈ L, ((ops[i]?).bind (·.dst)).isSome = true) → l1 = l2 := by
  induction ht generalizing f2 l2 with
  | nil => intro h2 _ _; cases h2; rfl
  | @cons i o rest f v l g ho hv hr ih =>
    intro h2 hnd hs
    cases h2 with
    | @cons _ o' _ _ v' l' _ ho' hv' hr' =>
      rw [ho] at ho'
      cases ho'
      rw [List.map_cons, List.nodup_cons] at hnd
      have hd := hs i (by simp)
      rw [ho] at hd
      obtain ⟨s, hs'⟩ := Option.isSome_iff_exists.1 hd
      have hs'' : o.dst = some s := hs'
      have hnot : ∀ j ∈ rest, (ops[j]?).bind (·.dst) ≠ some s := by
        intro j hj hx
        refine hnd.1 (List.mem_map.2 ⟨j, hj, ?_⟩)
        rw [hx, ho]; exact hs'.symm
      have e1 := hr.keep s hnot
      have e2 := hr'.keep s hnot
      rw [put_at, if_pos hs''] at e1 e2
      rw [← e1, ← e2, ih hr' hnd.2 fun j hj => hs j (by simp [hj])]
/-- The check of a new variable among what turns nothing. -/
def newOk (ops : List Oper) (M L : List Nat) (x d : Nat) (t : TypeId) : Bool :=
  detOk ops L && decide (x < ops.length) && !L.contains x && (M.all fun i => i == x || L.contains i) && (L.all fun i => M.contains i) && M.contains x &&
  (match ops[x]? with | some ⟨some d', .alloc t', _, _, _, none⟩ => d' == d && t' == t | _ => false) &&
  (L.all fun i => match ops[x]?, ops[i]? with | some a, some b => !hits ops a b | _, _ => false) &&
  decide ((L.map fun i => (ops[i]?).bind (·.dst)).Nodup) && (L.all fun i => ((ops[i]?).bind (·.dst)).isSome)
theorem RS_new {P : Program} {ops : List Oper} {M : List Nat} {f : Fr} {h : List Res} {K : Fr → List Res → Prop} (L : List Nat) (x d : Nat) (t : TypeId) (zs : Array Value) (hok : newOk ops M L x d t = true) (hz : (zeroT P t).map Value.cells = some zs) (G : Fr)
    (ht : ToO P ops h L (pick ops L) f fun g => g = G) (ht2 : ∀ gb, below gb h → ToO P ops (.cells gb t zs :: h) L (pick ops L) f fun g => g = G)
    (hK : ∀ gb, below gb h → K (put G (some d) (.pointer (some ⟨gb, 0, none⟩))) (.cells gb t zs :: h)) : RS P ops M f h K := by
  unfold newOk at hok
  simp only [Bool.and_eq_true, decide_eq_true_eq, List.all_eq_true, Bool.or_eq_true, List.contains_iff_mem, Bool.not_eq_true', List.contains_eq_mem, decide_eq_false_iff_not, beq_iff_eq] at hok
  obtain ⟨⟨⟨⟨⟨⟨⟨⟨⟨hdet, hxl⟩, hxL⟩, hM1⟩, hM2⟩, hxM⟩, hop⟩, hno⟩, hnd⟩, hsome⟩ := hok
  obtain ⟨hnodupL, hltL⟩ := detOk_nodup L hdet
  obtain ⟨l, g, htr, rfl⟩ := ToO_sound L _ f _ (fun i hi => by rw [List.getElem?_eq_getElem (hltL i hi)]; rfl) rfl ht
  obtain ⟨ox, hox⟩ : ∃ ox, ops[x]? = some ox := ⟨_, List.getElem?_eq_getElem hxl⟩
  rw [hox] at hop
  have hnox : ∀ i ∈ L, ∀ o, ops[i]? = some o → hits ops ox o = false := by
    intro i hi o ho
    have := hno i hi
    rw [hox, ho] at this
    simpa using this
  obtain ⟨dst, op, ty, pos, aft, gd⟩ := ox
  cases dst with
  | none => simp at hop
  | some d' =>
  cases gd with
  | some _ => cases op <;> simp at hop
  | none =>
  cases op <;> try (simp at hop; done)
  simp only [Bool.and_eq_true, beq_iff_eq] at hop
  obtain ⟨rfl, rfl⟩ := hop
  rename_i t
  obtain ⟨zv, hzv, rfl⟩ := Option.map_eq_some_iff.1 hz
  intro σ hσ
  have hmemL : ∀ y ∈ l, y.1 ∈ L := fun y hy => by rw [← htr.nums.1]; exact List.mem_map_of_mem hy
  have hend : ∀ pre : List Nat, (∀ i ∈ L, i ∈ pre) → (foldS f l fun j => decide (j ∈ pre)) = g := by
    intro pre hp
    rw [htr.fold]
    funext s
    refine foldS_at l f f rfl ?_
    intro y hy _
    exact decide_eq_true (hp _ (hmemL y hy))
  have hord : ∀ (pre : List Nat) (i : Nat) (suf : List Nat), σ = pre ++ i :: suf → i ∈ L → i ∉ pre ∧ (∀ j ∈ L, ((masks ops).getD i 0).testBit j = true → j ∈ pre) ∧ (∀ j ∈ L, j ∈ pre → ((masks ops).getD j 0).testBit i = true → False) := by
    intro pre i suf hpre hi
    have hnd := hσ.nodup
    rw [hpre] at hnd
    have hil : i ∉ pre := fun hm => (List.nodup_append.1 hnd).2.2 i hm i (by simp) rfl
    refine ⟨hil, fun j hj hm => hσ.ord pre i suf hpre j (hM2 j hj) hm, fun j hj hjp hm => ?_⟩
    obtain ⟨p1, p2, rfl⟩ := List.append_of_mem hjp
    have := hσ.ord p1 j (p2 ++ i :: suf) (by rw [hpre]; simp) i (hM2 i hi) hm
    exact hil (by simp [this])
  -- behind the new variable
  have key2 : ∀ gb, below gb h → ∀ (suf pre : List Nat), σ = pre ++ suf → x ∈ pre → hl P ops (suf.filterMap (ops[·]?)) (put (foldS f l fun j => decide (j ∈ pre)) (some d') (.pointer (some ⟨gb, 0, none⟩))) (.cells gb t zv.cells :: h) K := by
    intro gb hgb
    obtain ⟨l', g', htr', hg'⟩ := ToO_sound L _ f _ (fun i hi => by rw [List.getElem?_eq_getElem (hltL i hi)]; rfl) rfl (ht2 gb hgb)
    have hg'' : g' = g := hg'
    subst hg''
    obtain rfl : l = l' := htr.same htr' hnd hsome
    intro suf
    induction suf with
    | nil =>
      intro pre hpre hx
      rw [List.append_nil] at hpre
      subst hpre
      rw [hend _ fun i hi => (hσ.mem i).2 (hM2 i hi)]
      exact hK gb hgb
    | cons i suf ih =>
      intro pre hpre hx
      have hix : i ≠ x := by
        rintro rfl
        have hnd' := hσ.nodup
        rw [hpre] at hnd'
        exact (List.nodup_append.1 hnd').2.2 i hx i (by simp) rfl
      have hiL : i ∈ L := (hM1 i ((hσ.mem i).1 (by rw [hpre]; simp))).resolve_left hix
      obtain ⟨h1, h2, h3⟩ := hord pre i suf hpre hiL
      obtain ⟨o, v, hio, hgv, hput⟩ := det_step hdet htr' pre i hiL h1 h2 h3
      obtain ⟨n1, n2, n3⟩ := hits_no (hnox i hiL o hio)
      rw [List.filterMap_cons, hio]
      refine Gives.step (hgv.frame fun s hs => (reads_put n1 s hs).symm) ?_
      rw [put_comm _ _ _ _ _ n3, hput]
      exact ih (pre ++ [i]) (by rw [hpre]; simp) (by simp [hx])
  have key : ∀ (suf pre : List Nat), σ = pre ++ suf → x ∉ pre → hl P ops (suf.filterMap (ops[·]?)) (foldS f l fun j => decide (j ∈ pre)) h K := by
    intro suf
    induction suf with
    | nil =>
      intro pre hpre hx
      rw [List.append_nil] at hpre
      subst hpre
      exact absurd ((hσ.mem x).2 hxM) hx
    | cons i suf ih =>
      intro pre hpre hx
      by_cases hix : i = x
      · subst hix
        rw [List.filterMap_cons, hox]
        show hl P ops (_ :: _) _ _ _
        rw [hl_step]
        show wO (zeroT P t) fun z => hnew t z.cells h _
        rw [hzv]
        refine ⟨zv, rfl, fun gb hgb => ?_⟩
        have := key2 gb hgb suf (pre ++ [i]) (by rw [hpre]; simp) (by simp)
        have he : (foldS f l fun j => decide (j ∈ pre ++ [i])) = foldS f l fun j => decide (j ∈ pre) := by
          funext s
          refine foldS_at l f f rfl fun y hy _ => ?_
          have hne : y.1 ≠ i := fun e => hxL (e ▸ hmemL y hy)
          simp [hne]
        rw [he] at this
        exact this
      · have hiL : i ∈ L := (hM1 i ((hσ.mem i).1 (by rw [hpre]; simp))).resolve_left hix
        obtain ⟨h1, h2, h3⟩ := hord pre i suf hpre hiL
        obtain ⟨o, v, hio, hgv, hput⟩ := det_step hdet htr pre i hiL h1 h2 h3
        rw [List.filterMap_cons, hio]
        refine Gives.step hgv ?_
        rw [hput]
        exact ih (pre ++ [i]) (by rw [hpre]; simp) (by simp [hx, Ne.symm hix])
  have := key σ [] rfl (by simp)
  have h0 : foldS f l (fun j => decide (j ∈ ([] : List Nat))) = f := by
    funext s
    exact foldS_keep l f fun y _ _ => by simp
  rwa [h0] at this
end H
end Go.Proofs.Ytjcchmlideknpaa
