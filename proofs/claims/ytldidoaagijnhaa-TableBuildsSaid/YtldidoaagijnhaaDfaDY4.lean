/- dfa and its reference: the walks: whether two are alike. -/
import Derived.Test.YtldidoaagijnhaaDfaCY4
namespace Go.Proofs.Ytldidoaagijnhaa
set_option linter.unusedSimpArgs false
set_option linter.unusedVariables false
open H
theorem dec_len {α : Type} {l r : List α} [DecidableEq α] (h : ¬ l.length = r.length) : decide (l = r) = false := decide_eq_false fun e => h (by rw [e])
theorem arr_cls (x y : Operand) (d e : Dfa.D) : eqK Try.prog .neq 44 x y (List.toArray (vals 256 (Dfa.clsV d))) (List.toArray (vals 256 (Dfa.clsV e))) (leaves Try.prog 44) = some (.bool (!alike 256 d.cls e.cls)) :=
  (eqK_arr (show arrT Try.prog 44 3 256 .i64 = true by kernel_rfl) x y d.cls e.cls _ rfl).2
theorem bools_at {w : World} {a : Option Addr} {l : List Bool} (h : Rd w a l.length 1 (ofL (fun x => [.bool x]) false l)) (i : Nat) (hi : i < l.length) : ∃ b o, a = some ⟨b, o, none⟩ ∧ b < w.heap.size ∧ w.cell? ⟨b, o + i, none⟩ = some (.bool (l.getD i false)) := by
  obtain ⟨b, o, e, hb, _, hj⟩ := h.at_ i hi
  refine ⟨b, o, e, hb, ?_⟩
  have := hj 0 (by omega); rwa [Nat.mul_one, Nat.add_zero] at this

theorem same_no1 {d e : Dfa.D} (h : alike 256 d.cls e.cls = false) : Dfa.sameB d e = false := by unfold Dfa.sameB; rw [h]; rfl
theorem same_no2 {d e : Dfa.D} (h : ¬ d.next = e.next) : Dfa.sameB d e = false := by unfold Dfa.sameB; rw [decide_eq_false h]; simp
theorem same_no3 {d e : Dfa.D} (h : ¬ d.rules = e.rules) : Dfa.sameB d e = false := by unfold Dfa.sameB; rw [decide_eq_false h]; simp
theorem same_yes {d e : Dfa.D} (h : alike 256 d.cls e.cls = true) (h2 : d.next = e.next) (h3 : d.rules = e.rules) : Dfa.sameB d e = true := by unfold Dfa.sameB; rw [h, decide_eq_true h2, decide_eq_true h3]; rfl

end Go.Proofs.Ytldidoaagijnhaa
