/- A head that was laid down is read as it was, wherever it stands; cut anywhere it ends too early. No condition. -/
import Derived.Test.YtlmbebnpnnkhmaaRow
import Derived.Test.YtlmbebnpnnkhmaaGzJ
import Derived.Test.YtlmbebnpnnkhmaaGzQ
namespace Go.Proofs.Ytlmbebnpnnkhmaa
set_option linter.unusedSimpArgs false
set_option linter.unusedVariables false
open H
open Go.ChangeShapes Go.WideShapes Go.ChangeAt Go.RowKit
open Go.ChangeMaps (open_string)

set_option maxRecDepth 100000 in
theorem gzheadBack_lifted (os : Os) (started : os.Started) (K : Type) (enc : TypeId × Value → K) :
    ReturnsInHanded {} Try.checked os 9 .any (Rows.gzheadBackSpec.pre6 enc Try.prog Try.f9 Rows.gzheadBackRow.domain false) (Rows.gzheadBackSpec.post enc Try.prog Try.f9 false true false false) := by
  refine returnsInHanded_of_change (C := Try.checked) own started (by kernel_rfl) Try.func9
    (ChangeSpec.witness6 (enc := enc) (C := Try.checked) false ⟨#[], #[.agg #[.int .i64 0, .string ByteArray.empty, .string ByteArray.empty, .string ByteArray.empty, .int .i64 0, .int .i64 0, .bool false, .bool false, .int .i64 0, .string ByteArray.empty, .string ByteArray.empty, .int .i64 0]], []⟩ 8 (by kernel_rfl) (by kernel_rfl) (by kernel_rfl) (by kernel_rfl)) ?_
  intro W base args ds gs before hval0 hW hcnd _
  have hval : ∀ (j : Nat) t v, Try.f9.params[j]? = some t → args[j]? = some v → Value.okWide Try.prog W .any base t v := hval0
  have hW' := hW
  obtain ⟨p, q, hA0, hV, rfl, hfz, hnd⟩ := hW
  have hA : DataW.TrodAll enc Try.prog W 0 (fun _ => true) true Try.f9.params.toList args.toList ds p := hA0
  rw [Try.params9] at hA hval
  obtain ⟨v0, vs0, d0, ds0, p0, q0, hargs, rfl, rfl, h0, r0⟩ := trodAll_cons hA
  obtain ⟨rfl, rfl, rfl⟩ := trodAll_nil r0
  obtain rfl : args = #[v0] := by cases args; simp_all
  obtain ⟨rfl, rfl⟩ := trodVars_none hV
  obtain ⟨cs0, rfl, a0⟩ := as_agg Try.underlying56 (hval 0 56 v0 rfl rfl) h0
  obtain ⟨h, a, c, cut, e0, hr, hc⟩ := as_case a0
  subst e0
  exact (law_gback h hr a c cut hc W).2.mono fun e W' ⟨v, he, hv, hx⟩ => ⟨v, he, hv ▸ post_law hW' laidOut (by kernel_rfl) rfl hx rfl (by kernel_rfl) Try.underlying4⟩

theorem gzheadBack_holds : Rows.GzheadBackSaid :=
  OpenClaim.holds_of_wide 9 Try.f9 rfl rfl rfl rfl rfl rfl rfl ⟨rfl, rfl, rfl, rfl, rfl⟩ rfl rfl rfl rfl rfl (by kernel_rfl) Try.func9 (by kernel_rfl)
    (of_decide_eq_true (by kernel_rfl)) (by unfold Func.isWrapper; first | (rw [if_pos (by decide +kernel)]; kernel_rfl) | (rw [if_neg (by decide +kernel)]; exact ⟨rfl, rfl⟩))
    (fun os started K enc _ => gzheadBack_lifted os started K enc)
#print axioms gzheadBack_holds
end Go.Proofs.Ytlmbebnpnnkhmaa
