/- A number that was put is got at its place, whatever stands about it, and the place behind it is told. No condition. -/
import Derived.Test.YtmbenaehnmdbgaaRow
import Derived.Test.YtmbenaehnmdbgaaVintB
import Derived.Test.YtmbenaehnmdbgaaOpen
namespace Go.Proofs.Ytmbenaehnmdbgaa
set_option linter.unusedSimpArgs false
set_option linter.unusedVariables false
open H
open Go.ChangeShapes Go.WideShapes Go.ChangeAt Go.RowKit
open Go.ChangeMaps (open_string)

set_option maxRecDepth 100000 in
theorem vintBack_lifted (os : Os) (started : os.Started) (K : Type) (enc : TypeId × Value → K) :
    ReturnsInHanded {} Try.checked os 10 .any (Rows.vintBackSpec.pre6 enc Try.prog Try.f10 Rows.vintBackRow.domain false) (Rows.vintBackSpec.post enc Try.prog Try.f10 false true false false) := by
  refine returnsInHanded_of_change (C := Try.checked) own started (by kernel_rfl) Try.func10
    (ChangeSpec.witness6 (enc := enc) (C := Try.checked) false ⟨#[], #[.agg #[.string ByteArray.empty, .int .i64 0, .int .i64 0, .string ByteArray.empty]], []⟩ 8 (by kernel_rfl) (by kernel_rfl) (by kernel_rfl) (by kernel_rfl)) ?_
  intro W base args ds gs before hval0 hW hcnd _
  have hval : ∀ (j : Nat) t v, Try.f10.params[j]? = some t → args[j]? = some v → Value.okWide Try.prog W .any base t v := hval0
  have hW' := hW
  obtain ⟨p, q, hA0, hV, rfl, hfz, hnd⟩ := hW
  have hA : DataW.TrodAll enc Try.prog W 0 (fun _ => true) true Try.f10.params.toList args.toList ds p := hA0
  rw [Try.params10] at hA hval
  obtain ⟨v0, vs0, d0, ds0, p0, q0, hargs, rfl, rfl, h0, r0⟩ := trodAll_cons hA
  obtain ⟨rfl, rfl, rfl⟩ := trodAll_nil r0
  obtain rfl : args = #[v0] := by cases args; simp_all
  obtain ⟨rfl, rfl⟩ := trodVars_none hV
  obtain ⟨cs, k, rfl, hl, hf⟩ := open_struct Try.underlying52 (hval 0 52 v0 rfl rfl) h0
  have c9 : Try.prog.cellsOf 9 = 1 := by kernel_rfl
  have c3 : Try.prog.cellsOf 3 = 1 := by kernel_rfl
  have c52 : Try.prog.cellsOf 52 = 4 := by kernel_rfl
  obtain ⟨y0, q0⟩ := hf 0 _ rfl
  obtain ⟨y1, q1⟩ := hf 1 _ rfl
  obtain ⟨y2, q2⟩ := hf 2 _ rfl
  obtain ⟨y3, q3⟩ := hf 3 _ rfl
  obtain ⟨s0, r0', _, z0⟩ := DataW.trod_string Try.underlying9 q0
  obtain ⟨s1, r1', _, z1⟩ := DataW.trod_int Try.underlying3 q1
  obtain ⟨s2, r2', _, z2⟩ := DataW.trod_int Try.underlying3 q2
  obtain ⟨s3, r3', _, z3⟩ := DataW.trod_string Try.underlying9 q3
  obtain rfl : cs = #[.string s0, .int .i64 s1, .int .i64 s2, .string s3] := by
    rw [c52] at hl
    apply Array.ext'
    generalize cs.toList = l at *
    obtain ⟨a, b, c, d, rfl⟩ : ∃ a b c d, l = [a, b, c, d] := by
      match l, hl with
      | [a, b, c, d], _ => exact ⟨a, b, c, d, rfl⟩
    · simp only [List.getElem_toArray, List.getElem_cons_zero, List.getElem_cons_succ, c9, c3, List.drop_succ_cons, List.drop_zero, List.take_succ_cons, List.take_zero, List.cons.injEq, and_true] at r0' r1' r2' r3'
      rw [r0', r1', r2', r3']
  rw [string_str s0, string_str s3] at hW' ⊢
  exact (law_back s0.data.toList s3.data.toList s1 s2 (int_i64 z1) W).2.mono fun e W' ⟨v, he, hv, hx⟩ => ⟨v, he, hv ▸ post_law hW' laidOut (by kernel_rfl) rfl hx rfl (by kernel_rfl) Try.underlying4⟩

theorem vintBack_holds : Rows.VintBackSaid :=
  OpenClaim.holds_of_wide 10 Try.f10 rfl rfl rfl rfl rfl rfl rfl ⟨rfl, rfl, rfl, rfl, rfl⟩ rfl rfl rfl rfl rfl (by kernel_rfl) Try.func10 (by kernel_rfl)
    (of_decide_eq_true (by kernel_rfl)) (by unfold Func.isWrapper; first | (rw [if_pos (by decide +kernel)]; kernel_rfl) | (rw [if_neg (by decide +kernel)]; exact ⟨rfl, rfl⟩))
    (fun os started K enc _ => vintBack_lifted os started K enc)
#print axioms vintBack_holds
end Go.Proofs.Ytmbenaehnmdbgaa
