/- Arrays of numbers, told apart. -/
import Derived.Test.YtldidoaagijnhaaAgg
import Derived.ChangeKeysEq
namespace Go.Proofs.Ytldidoaagijnhaa
set_option linter.unusedSimpArgs false
set_option linter.unusedVariables false
namespace H
open Go
def intsV (F : Nat → Int) (k : IntKind) (i : Nat) : Value := .int k (F i)
theorem run_eqItems_ints {P : Program} (w : World) (d : Nat) {e : TypeId} {k : IntKind} (he : P.underlying e = some (.int k)) (n : Nat) (F G : Nat → Int) : ∀ (is : List Nat), (∀ i ∈ is, i < n) →
    (Op.eqItems (d + 1) e 1 (List.toArray (vals n (intsV F k))) (List.toArray (vals n (intsV G k))) is).run P w = .ok (decide (∀ i ∈ is, F i = G i)) w
  | [], _ => by simp [Op.eqItems]
  | i :: is, h => by
    have hi := h i (by simp)
    have hag : aggT P e = some false := by unfold aggT; rw [he]
    have hp : ∀ F : Nat → Int, (part e (List.toArray (vals n (intsV F k))) (i * 1)).run P w = .ok (.int k (F i)) w := by
      intro F
      have hx : (vals n (intsV F k))[i]? = some (.int k (F i)) := by rw [vals_get _ _ _ hi]; rfl
      simp [part, run_agg hag, hx]
    have ih := run_eqItems_ints w d he n F G is fun j hj => h j (by simp [hj])
    simp only [Op.eqItems, Sem.run_bind, hp F, hp G, Result.andThen_ok, run_equalIn_int w d e k k (F i) (G i) he]
    by_cases hfg : F i = G i
    · have : (F i == G i) = true := by simp [hfg]
      rw [this]
      simp only [Bool.not_true, Bool.false_eq_true, if_false, ih]
      congr 1
      rw [decide_eq_decide]
      simp [hfg]
    · have : (F i == G i) = false := by simp [hfg]
      rw [this]
      simp only [Bool.not_false, if_true, Sem.run_pure]
      congr 1
      symm
      rw [decide_eq_false_iff_not]
      exact fun hh => hfg (hh i (by simp))
/-- Alike in the first n places. -/
def alike (n : Nat) (F G : Nat → Int) : Bool := decide (∀ i ∈ List.range n, F i = G i)
theorem alike_iff {n : Nat} {F G : Nat → Int} : alike n F G = true ↔ ∀ i, i < n → F i = G i := by simp [alike]
/-- What an array's type must be. -/
def arrT (P : Program) (t e : TypeId) (n : Nat) (k : IntKind) : Bool :=
  (match P.underlying t with | some (.array m e') => m == n && e' == e | _ => false) && (match P.underlying e with | some (.int k') => k' == k | _ => false) && (P.info? e).isSome && P.cellsOf e == 1 && !P.eqGuardType P.depth t
theorem pure_arr {P : Program} {t e : TypeId} {n : Nat} {k : IntKind} (h : arrT P t e n k = true) (op : BinOp) (x y : Operand) (F G : Nat → Int) (v : Value) (hv : (op = .eql ∧ v = .bool (alike n F G)) ∨ (op = .neq ∧ v = .bool (!alike n F G))) :
    pureV P (binS op t x y (.agg (List.toArray (vals n (intsV F k)))) (.agg (List.toArray (vals n (intsV G k))))) = some v := by
  unfold arrT at h
  simp only [Bool.and_eq_true, Bool.not_eq_true'] at h
  obtain ⟨⟨⟨⟨h1, h2⟩, h3⟩, h4⟩, h5⟩ := h
  have hu : P.underlying t = some (.array n e) := by
    split at h1
    · rename_i hu
      simp only [Bool.and_eq_true, beq_iff_eq] at h1
      rw [hu, h1.1, h1.2]
    · cases h1
  have he : P.underlying e = some (.int k) := by
    split at h2
    · rename_i hu
      rw [hu, beq_iff_eq.1 h2]
    · cases h2
  obtain ⟨i, hi⟩ := Option.isSome_iff_exists.1 h3
  have hc : P.cellsOf e = 1 := by simpa using h4
  refine pureV_eq fun w => ?_
  have hg := run_eqGuard_agg w op t x y (List.toArray (vals n (intsV F k))) (List.toArray (vals n (intsV G k))) h5
  have heq : (Op.equalIn 10000 t (.agg (List.toArray (vals n (intsV F k)))) (.agg (List.toArray (vals n (intsV G k))))).run P w = .ok (alike n F G) w := by
    have := run_equalIn_array (P := P) (w := w) 9999 (List.toArray (vals n (intsV F k))) (List.toArray (vals n (intsV G k))) hu hi
    rw [this, hc]
    exact run_eqItems_ints w 9998 he n F G (List.range n) fun i hi => by simpa using hi
  unfold binS
  simp only [Sem.run_bind, hg, Result.andThen_ok]
  rcases hv with ⟨rfl, rfl⟩ | ⟨rfl, rfl⟩
  · simp only [run_eql_struct, heq, Result.andThen_ok]
  · simp only [run_neq_struct, heq, Result.andThen_ok]
theorem eqK_arr {P : Program} {t e : TypeId} {n : Nat} {k : IntKind} (h : arrT P t e n k = true) (x y : Operand) (F G : Nat → Int) (o : Option (List Leaf)) (ho : leaves P t = o) :
    eqK P .eql t x y (List.toArray (vals n (intsV F k))) (List.toArray (vals n (intsV G k))) o = some (.bool (alike n F G)) ∧ eqK P .neq t x y (List.toArray (vals n (intsV F k))) (List.toArray (vals n (intsV G k))) o = some (.bool (!alike n F G)) := by
  subst ho
  rw [← pure_agg_eq, ← pure_agg_eq]
  exact ⟨pure_arr h .eql x y F G _ (.inl ⟨rfl, rfl⟩), pure_arr h .neq x y F G _ (.inr ⟨rfl, rfl⟩)⟩
end H
end Go.Proofs.Ytldidoaagijnhaa
