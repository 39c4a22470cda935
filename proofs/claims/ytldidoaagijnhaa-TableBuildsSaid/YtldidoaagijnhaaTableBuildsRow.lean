/- The bytes of any automaton, and its different rows, are as the document says, or refused; for all automata, no conditions. -/
import Derived.Test.YtldidoaagijnhaaRow
import Derived.Test.YtldidoaagijnhaaTbZ
import Derived.Test.YtldidoaagijnhaaDfaQY4
namespace Go.Proofs.Ytldidoaagijnhaa
set_option linter.unusedSimpArgs false
set_option linter.unusedVariables false
open H
open Go.ChangeShapes Go.WideShapes Go.ChangeAt Go.RowKit
open Go.ChangeMaps (open_string)

set_option maxRecDepth 100000 in
theorem tableBuilds_lifted (os : Os) (started : os.Started) (K : Type) (enc : TypeId × Value → K) :
    ReturnsInHanded {} Try.checked os 5 .any (Rows.tableBuildsSpec.pre6 enc Try.prog Try.f5 Rows.tableBuildsRow.domain false) (Rows.tableBuildsSpec.post enc Try.prog Try.f5 false true false false) := by
  refine returnsInHanded_of_change (C := Try.checked) own started (by kernel_rfl) Try.func5
    (ChangeSpec.witness6 (enc := enc) (C := Try.checked) false ⟨#[], #[.agg (Array.replicate 256 (.int .i64 0) ++ #[.slice none 0 0, .slice none 0 0])], []⟩ 8 (by kernel_rfl) (by kernel_rfl) (by kernel_rfl) (by kernel_rfl)) ?_
  intro W base args ds gs before hval0 hW hcnd _
  have hval : ∀ (j : Nat) t v, Try.f5.params[j]? = some t → args[j]? = some v → Value.okWide Try.prog W .any base t v := hval0
  have hW' := hW
  obtain ⟨p, q, hA0, hV, rfl, hfz, hnd⟩ := hW
  have hA : DataW.TrodAll enc Try.prog W 0 (fun _ => true) true Try.f5.params.toList args.toList ds p := hA0
  rw [Try.params5] at hA hval
  obtain ⟨v0, vs0, d0, ds0, p0, q0, hargs, rfl, rfl, h0, r0⟩ := trodAll_cons hA
  obtain ⟨rfl, rfl, rfl⟩ := trodAll_nil r0
  obtain rfl : args = #[v0] := by cases args; simp_all
  obtain ⟨rfl, rfl⟩ := trodVars_none hV
  obtain ⟨cs0, rfl, a0⟩ := as_agg Try.underlying48 (hval 0 48 v0 rfl rfl) h0
  obtain ⟨d, e0, hm⟩ := open_dfa a0
  subst e0
  exact (law_builds d W hm).2.mono fun e W' ⟨v, he, hv, hx⟩ => ⟨v, he, hv ▸ post_law hW' laidOut (by kernel_rfl) rfl hx rfl (by kernel_rfl) Try.underlying4⟩

theorem tableBuilds_holds : Rows.TableBuildsSaid :=
  OpenClaim.holds_of_wide 5 Try.f5 rfl rfl rfl rfl rfl rfl rfl ⟨rfl, rfl, rfl, rfl, rfl⟩ rfl rfl rfl rfl rfl (by kernel_rfl) Try.func5 (by kernel_rfl)
    (of_decide_eq_true (by kernel_rfl)) (by unfold Func.isWrapper; first | (rw [if_pos (by decide +kernel)]; kernel_rfl) | (rw [if_neg (by decide +kernel)]; exact ⟨rfl, rfl⟩))
    (fun os started K enc _ => tableBuilds_lifted os started K enc)
#print axioms tableBuilds_holds
end Go.Proofs.Ytldidoaagijnhaa
