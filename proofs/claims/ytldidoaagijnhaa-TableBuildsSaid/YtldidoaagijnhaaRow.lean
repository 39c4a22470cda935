/- From what a law's walk shows to the row's statement: the arguments read as they read before, since nothing that was there has turned. -/
import Derived.Test.YtldidoaagijnhaaRows
import Derived.Test.YtldidoaagijnhaaWalk
import Derived.ProofKit
import Derived.OpenShut
import Derived.Carry
namespace Go.Proofs.Ytldidoaagijnhaa
set_option linter.unusedSimpArgs false
set_option linter.unusedVariables false
open H
open Go.ChangeShapes Go.WideShapes Go.ChangeAt Go.RowKit

theorem own : ownKnob Try.prog.godebug = none := by kernel_rfl
theorem laidOut : laidOutB Try.prog = true := by kernel_rfl

theorem H.Ext.below {W W' : World} (h : Ext [] W W') : Below W.heap.size W W' := ⟨h.os, h.tape, h.output, h.size, fun k hk => h.block k hk (by simp)⟩
theorem H.Ext.kept {W W' : World} (h : Ext [] W W') (may : MemPlace → Prop) : W.keptBut W' may := by
  refine ⟨h.os, h.output, fun i hi => ?_⟩
  rw [h.block i hi (by simp)]
  cases W.heap[i]? with
  | none => trivial
  | some o => cases o <;> simp

/-- One closed fact: each parameter's type can be read and is a row of the table. -/
def rowed (P : Program) (ts : List TypeId) : Bool := ts.all fun t => P.readableRec t && decide (t < P.types.size)

theorem trodAll_kept {K : Type} {enc : TypeId × Value → K} {P : Program} (hl : laidOutB P = true) {W W' : World} (hb : Below W.heap.size W W') : ∀ {ts : List TypeId} {vs : List Value} {ds : List (DataW K)} {ps : List MemPlace},
    rowed P ts = true → DataW.TrodAll enc P W 0 (fun _ => true) true ts vs ds ps → (∀ x ∈ ps, x.block < W.heap.size) → DataW.TrodAll enc P W' 0 (fun b => decide (b < W.heap.size)) true ts vs ds ps
  | [], [], [], _, _, h, _ => h
  | [], _ :: _, _, _, _, h, _ => h.elim
  | [], [], _ :: _, _, _, h, _ => h.elim
  | _ :: _, [], _, _, _, h, _ => h.elim
  | _ :: _, _ :: _, [], _, _, h, _ => h.elim
  | t :: ts, v :: vs, d :: ds, ps, hr, h, hlt => by
    obtain ⟨p, q, h1, h2, rfl⟩ := h
    simp only [rowed, List.all_cons, Bool.and_eq_true, decide_eq_true_eq] at hr
    exact ⟨p, q, Below.trod hl hr.1.1 hr.1.2 h1 hb fun x hx => hlt x (by simp [hx]), trodAll_kept hl hb hr.2 h2 fun x hx => hlt x (by simp [hx]), rfl⟩

/-- What a law's row asks behind the call. -/
theorem post_law {K : Type} {enc : TypeId × Value → K} {P : Program} {f : Func} {s : ChangeSpec} {apart fresh handsOn : Bool} {W W' : World} {args : Array Value} {ds gs : List (DataW K)} {before : List MemPlace} {t : TypeId}
    (hW : DataW.Whole enc P f.params.toList s.vars apart W args.toList ds gs before) (hl : laidOutB P = true) (hr : rowed P f.params.toList = true) (hv : s.vars = []) (hx : Ext [] W W')
    (hres : s.fn K (ds ++ gs) = { results := [.lit (.bool true)], args := ds }) (hrt : f.resultTypes = #[t]) (ht : P.underlying t = some .bool) : s.post enc P f apart fresh handsOn false W args (.bool true) W' := by
  have hlt := hW.lt
  have hW' := hW
  obtain ⟨p, q, hA, hV, rfl, _, _⟩ := hW
  rw [hv] at hV
  obtain ⟨rfl, rfl⟩ := trodVars_none hV
  refine ⟨ds, [], p ++ [], [], p, [], hW', ?_, ?_, ?_, hx.kept _, by simp⟩
  · rw [hres, hrt]
    exact trodAll_cons_mk (shut_bool ht true) trodAll_mk0
  · rw [hres]
    exact trodAll_kept hl hx.below hr hA fun x hx => hlt x (by simp [hx])
  · rw [hres, hv]; exact rfl

/-- An integer of 32 bits, as bits. -/
theorem int_u32 {a : Int} (h : (Lit.int .u32 a).wf = true) : ∃ c : BitVec 32, Value.int .u32 a = .int .u32 (c.toNat : Int) := by
  simp only [Lit.wf, Bool.and_eq_true, decide_eq_true_eq] at h
  refine ⟨BitVec.ofNat 32 a.toNat, ?_⟩
  have h1 : (0 : Int) ≤ a := h.1
  have h2 : a ≤ 4294967295 := h.2
  rw [BitVec.toNat_ofNat, Nat.mod_eq_of_lt (by omega)]
  congr 1; omega
theorem int_u8 {a : Int} (h : (Lit.int .u8 a).wf = true) : ∃ c : UInt8, Value.int .u8 a = byte c := by
  simp only [Lit.wf, Bool.and_eq_true, decide_eq_true_eq] at h
  have h1 : (0 : Int) ≤ a := h.1
  have h2 : a ≤ 255 := h.2
  refine ⟨UInt8.ofNat a.toNat, ?_⟩
  unfold byte
  rw [UInt8.toNat_ofNat', Nat.mod_eq_of_lt (by omega)]
  congr 1; omega
theorem string_str (a : ByteArray) : Value.string a = str a.data.toList := by unfold str; rfl
theorem string_len {a : ByteArray} (h : a.size ≤ maxLen) : a.data.toList.length ≤ 9223372036854775807 := by
  rw [show a.data.toList.length = a.size from Array.length_toList]; exact h
theorem int_i64 {a : Int} (h : (Lit.int .i64 a).wf = true) : -9223372036854775808 ≤ a ∧ a ≤ 9223372036854775807 := by
  simp only [Lit.wf, Bool.and_eq_true, decide_eq_true_eq] at h
  exact ⟨h.1, h.2⟩
end Go.Proofs.Ytldidoaagijnhaa
