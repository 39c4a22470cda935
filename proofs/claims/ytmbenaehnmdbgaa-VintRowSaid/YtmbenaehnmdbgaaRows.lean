/-
  No cell of these rows narrows 'for every input' (looked for: loops, veiled, ifaces, maps, wideKeys, modest, calm, conditions, laid).
  DERIVED. THE GIVEN ROWS OF THIS SEAT. 10 by the template 'for every input the law returns true; each argument reads behind the call as it read before'; 0 by the template 'total and deterministic' (their statements: YtmbenaehnmdbgaaTotals.lean).
  GIVEN WITH THE SEED: the statements are not yours to turn. If you find one false, say at which input.
  Laid BY PROGRAM, IN A SANDBOX (cutbox-rows.mjs): the forced cells as the released guide's own fill.sh prints them over the translation 850f426d620eafea… (all of the seat's roots in one cut). By AI agents, Wed Nov 11 2026. No macro, syntax, notation, axiom, sorry.
-/
import Derived.Test.YtmbenaehnmdbgaaChecked
import GoSem.Claim
import GoSem.ClaimJoined
import GoSem.ClaimMapViews
import Derived.JoinedTies
import Derived.KernelRfl
namespace Go.Proofs.Ytmbenaehnmdbgaa
/- THE CELL 'sum', in the pinned program and in every row, IS THE sha256 OF THE DUMP (.gsa) THAT YtmbenaehnmdbgaaProg.lean LOADS. Nothing in Lean hashes anything: it is a label: what it is worth is what the hold of that sum in a sandbox is worth. -/
noncomputable def Try.pinned : Pinned := { name := "ytmbenaehnmdbgaa", sum := "850f426d620eafeabe54abe3a0d9a7bc8b078cc9a95c3b68785cd11f4af5eb62", checked := Try.checked }
namespace Rows
def none {H : Type} : Left H := { results := [], args := [] }

/-- 'collimatorlaw02.CrcOf': WHATEVER THE INPUT: true; the input reads as it did. -/
def crcOfSpec : ChangeSpec := { name := "crcOf", fn := fun _ => fun
  | [d1, d2] => { results := [.lit (.bool true)], args := [d1, d2] }
  | _ => none }
def crcOfRow : OpenClaim := { program := "ytmbenaehnmdbgaa", sum := "850f426d620eafeabe54abe3a0d9a7bc8b078cc9a95c3b68785cd11f4af5eb62", func := "collimator/collimatorlaw02.CrcOf", spec := "crcOf", unfollowed := true, recurses := true, apart := false }
def CrcOfSaid : Prop := crcOfRow.holds Try.pinned (OpenSpec.ofChange crcOfSpec)

/-- ITS FALSE NEIGHBOUR: 'it returns false'. Refute it at one input. -/
def crcOfWrong : ChangeSpec := { name := "crcOf", fn := fun _ => fun
  | [d1, d2] => { results := [.lit (.bool false)], args := [d1, d2] }
  | _ => none }
def CrcOfWrongFalsely : Prop := crcOfRow.holds Try.pinned (OpenSpec.ofChange crcOfWrong)

/-- 'collimatorlaw02.CrcParts': WHATEVER THE INPUT: true; the input reads as it did. -/
def crcPartsSpec : ChangeSpec := { name := "crcParts", fn := fun _ => fun
  | [d1, d2] => { results := [.lit (.bool true)], args := [d1, d2] }
  | _ => none }
def crcPartsRow : OpenClaim := { program := "ytmbenaehnmdbgaa", sum := "850f426d620eafeabe54abe3a0d9a7bc8b078cc9a95c3b68785cd11f4af5eb62", func := "collimator/collimatorlaw02.CrcParts", spec := "crcParts", unfollowed := true, recurses := true, apart := false }
def CrcPartsSaid : Prop := crcPartsRow.holds Try.pinned (OpenSpec.ofChange crcPartsSpec)

/-- ITS FALSE NEIGHBOUR: 'it returns false'. Refute it at one input. -/
def crcPartsWrong : ChangeSpec := { name := "crcParts", fn := fun _ => fun
  | [d1, d2] => { results := [.lit (.bool false)], args := [d1, d2] }
  | _ => none }
def CrcPartsWrongFalsely : Prop := crcPartsRow.holds Try.pinned (OpenSpec.ofChange crcPartsWrong)

/-- 'collimatorlaw02.CrcTurned': WHATEVER THE INPUT: true; the input reads as it did. -/
def crcTurnedSpec : ChangeSpec := { name := "crcTurned", fn := fun _ => fun
  | [d1, d2, d3] => { results := [.lit (.bool true)], args := [d1, d2, d3] }
  | _ => none }
def crcTurnedRow : OpenClaim := { program := "ytmbenaehnmdbgaa", sum := "850f426d620eafeabe54abe3a0d9a7bc8b078cc9a95c3b68785cd11f4af5eb62", func := "collimator/collimatorlaw02.CrcTurned", spec := "crcTurned", unfollowed := true, recurses := true, apart := false }
def CrcTurnedSaid : Prop := crcTurnedRow.holds Try.pinned (OpenSpec.ofChange crcTurnedSpec)

/-- ITS FALSE NEIGHBOUR: 'it returns false'. Refute it at one input. -/
def crcTurnedWrong : ChangeSpec := { name := "crcTurned", fn := fun _ => fun
  | [d1, d2, d3] => { results := [.lit (.bool false)], args := [d1, d2, d3] }
  | _ => none }
def CrcTurnedWrongFalsely : Prop := crcTurnedRow.holds Try.pinned (OpenSpec.ofChange crcTurnedWrong)

/-- 'collimatorlaw02.CrcLinear': WHATEVER THE INPUT: true; the input reads as it did. -/
def crcLinearSpec : ChangeSpec := { name := "crcLinear", fn := fun _ => fun
  | [d1, d2, d3] => { results := [.lit (.bool true)], args := [d1, d2, d3] }
  | _ => none }
def crcLinearRow : OpenClaim := { program := "ytmbenaehnmdbgaa", sum := "850f426d620eafeabe54abe3a0d9a7bc8b078cc9a95c3b68785cd11f4af5eb62", func := "collimator/collimatorlaw02.CrcLinear", spec := "crcLinear", unfollowed := true, recurses := true, apart := false }
def CrcLinearSaid : Prop := crcLinearRow.holds Try.pinned (OpenSpec.ofChange crcLinearSpec)

/-- ITS FALSE NEIGHBOUR: 'it returns false'. Refute it at one input. -/
def crcLinearWrong : ChangeSpec := { name := "crcLinear", fn := fun _ => fun
  | [d1, d2, d3] => { results := [.lit (.bool false)], args := [d1, d2, d3] }
  | _ => none }
def CrcLinearWrongFalsely : Prop := crcLinearRow.holds Try.pinned (OpenSpec.ofChange crcLinearWrong)

/-- 'collimatorlaw02.CrcTable': WHATEVER THE INPUT: true; the input reads as it did. -/
def crcTableSpec : ChangeSpec := { name := "crcTable", fn := fun _ => fun
  | [d1, d2] => { results := [.lit (.bool true)], args := [d1, d2] }
  | _ => none }
def crcTableRow : OpenClaim := { program := "ytmbenaehnmdbgaa", sum := "850f426d620eafeabe54abe3a0d9a7bc8b078cc9a95c3b68785cd11f4af5eb62", func := "collimator/collimatorlaw02.CrcTable", spec := "crcTable", unfollowed := true, recurses := true, apart := false }
def CrcTableSaid : Prop := crcTableRow.holds Try.pinned (OpenSpec.ofChange crcTableSpec)

/-- ITS FALSE NEIGHBOUR: 'it returns false'. Refute it at one input. -/
def crcTableWrong : ChangeSpec := { name := "crcTable", fn := fun _ => fun
  | [d1, d2] => { results := [.lit (.bool false)], args := [d1, d2] }
  | _ => none }
def CrcTableWrongFalsely : Prop := crcTableRow.holds Try.pinned (OpenSpec.ofChange crcTableWrong)

/-- 'collimatorlaw01.VintPuts': WHATEVER THE INPUT: true; the input reads as it did. -/
def vintPutsSpec : ChangeSpec := { name := "vintPuts", fn := fun _ => fun
  | [d1, d2] => { results := [.lit (.bool true)], args := [d1, d2] }
  | _ => none }
def vintPutsRow : OpenClaim := { program := "ytmbenaehnmdbgaa", sum := "850f426d620eafeabe54abe3a0d9a7bc8b078cc9a95c3b68785cd11f4af5eb62", func := "collimator/collimatorlaw01.VintPuts", spec := "vintPuts", apart := false }
def VintPutsSaid : Prop := vintPutsRow.holds Try.pinned (OpenSpec.ofChange vintPutsSpec)

/-- ITS FALSE NEIGHBOUR: 'it returns false'. Refute it at one input. -/
def vintPutsWrong : ChangeSpec := { name := "vintPuts", fn := fun _ => fun
  | [d1, d2] => { results := [.lit (.bool false)], args := [d1, d2] }
  | _ => none }
def VintPutsWrongFalsely : Prop := vintPutsRow.holds Try.pinned (OpenSpec.ofChange vintPutsWrong)

/-- 'collimatorlaw01.VintGets': WHATEVER THE INPUT: true; the input reads as it did. -/
def vintGetsSpec : ChangeSpec := { name := "vintGets", fn := fun _ => fun
  | [d1, d2, d3] => { results := [.lit (.bool true)], args := [d1, d2, d3] }
  | _ => none }
def vintGetsRow : OpenClaim := { program := "ytmbenaehnmdbgaa", sum := "850f426d620eafeabe54abe3a0d9a7bc8b078cc9a95c3b68785cd11f4af5eb62", func := "collimator/collimatorlaw01.VintGets", spec := "vintGets", apart := false }
def VintGetsSaid : Prop := vintGetsRow.holds Try.pinned (OpenSpec.ofChange vintGetsSpec)

/-- ITS FALSE NEIGHBOUR: 'it returns false'. Refute it at one input. -/
def vintGetsWrong : ChangeSpec := { name := "vintGets", fn := fun _ => fun
  | [d1, d2, d3] => { results := [.lit (.bool false)], args := [d1, d2, d3] }
  | _ => none }
def VintGetsWrongFalsely : Prop := vintGetsRow.holds Try.pinned (OpenSpec.ofChange vintGetsWrong)

/-- 'collimatorlaw01.VintBack': WHATEVER THE INPUT: true; the input reads as it did. -/
def vintBackSpec : ChangeSpec := { name := "vintBack", fn := fun _ => fun
  | [d] => { results := [.lit (.bool true)], args := [d] }
  | _ => none }
def vintBackRow : OpenClaim := { program := "ytmbenaehnmdbgaa", sum := "850f426d620eafeabe54abe3a0d9a7bc8b078cc9a95c3b68785cd11f4af5eb62", func := "collimator/collimatorlaw01.VintBack", spec := "vintBack", apart := false }
def VintBackSaid : Prop := vintBackRow.holds Try.pinned (OpenSpec.ofChange vintBackSpec)

/-- ITS FALSE NEIGHBOUR: 'it returns false'. Refute it at one input. -/
def vintBackWrong : ChangeSpec := { name := "vintBack", fn := fun _ => fun
  | [d] => { results := [.lit (.bool false)], args := [d] }
  | _ => none }
def VintBackWrongFalsely : Prop := vintBackRow.holds Try.pinned (OpenSpec.ofChange vintBackWrong)

/-- 'collimatorlaw01.VintOnly': WHATEVER THE INPUT: true; the input reads as it did. -/
def vintOnlySpec : ChangeSpec := { name := "vintOnly", fn := fun _ => fun
  | [d1, d2] => { results := [.lit (.bool true)], args := [d1, d2] }
  | _ => none }
def vintOnlyRow : OpenClaim := { program := "ytmbenaehnmdbgaa", sum := "850f426d620eafeabe54abe3a0d9a7bc8b078cc9a95c3b68785cd11f4af5eb62", func := "collimator/collimatorlaw01.VintOnly", spec := "vintOnly", apart := false }
def VintOnlySaid : Prop := vintOnlyRow.holds Try.pinned (OpenSpec.ofChange vintOnlySpec)

/-- ITS FALSE NEIGHBOUR: 'it returns false'. Refute it at one input. -/
def vintOnlyWrong : ChangeSpec := { name := "vintOnly", fn := fun _ => fun
  | [d1, d2] => { results := [.lit (.bool false)], args := [d1, d2] }
  | _ => none }
def VintOnlyWrongFalsely : Prop := vintOnlyRow.holds Try.pinned (OpenSpec.ofChange vintOnlyWrong)

/-- 'collimatorlaw01.VintRow': WHATEVER THE INPUT: true; the input reads as it did. -/
def vintRowSpec : ChangeSpec := { name := "vintRow", fn := fun _ => fun
  | [d] => { results := [.lit (.bool true)], args := [d] }
  | _ => none }
def vintRowRow : OpenClaim := { program := "ytmbenaehnmdbgaa", sum := "850f426d620eafeabe54abe3a0d9a7bc8b078cc9a95c3b68785cd11f4af5eb62", func := "collimator/collimatorlaw01.VintRow", spec := "vintRow", apart := false }
def VintRowSaid : Prop := vintRowRow.holds Try.pinned (OpenSpec.ofChange vintRowSpec)

/-- ITS FALSE NEIGHBOUR: 'it returns false'. Refute it at one input. -/
def vintRowWrong : ChangeSpec := { name := "vintRow", fn := fun _ => fun
  | [d] => { results := [.lit (.bool false)], args := [d] }
  | _ => none }
def VintRowWrongFalsely : Prop := vintRowRow.holds Try.pinned (OpenSpec.ofChange vintRowWrong)

/- THE SECOND FORM. 'bulk': how many values and letters a reading holds, each counted each time it is reached (what is shared counts as often as it is met; a slice's spare places count too). A statement '..UptoSaid' is the law's where the arguments, and the package variables that the reading takes, are together of bulk at most 1048576: NARROWER than '..Said'. Prove '..Said' where nothing that the law and all that it calls make is longer than what came in: it says more and counts as full. Else prove '..UptoSaid'. A law counts once. -/
mutual
def uptoBulk {H : Type} : DataW H → Nat
  | .lit (.string bytes) => bytes.length + 1
  | .lit _ => 1
  | .nil => 1
  | .ptr d => uptoBulk d + 1
  | .slice elems spare => uptoBulkAll elems + uptoBulkAll spare + 1
  | .agg parts => uptoBulkAll parts + 1
  | .iface _ d => uptoBulk d + 1
  | .map entries => uptoBulkEntries entries + 1
  | .held _ => 1
def uptoBulkAll {H : Type} : List (DataW H) → Nat
  | [] => 0
  | d :: r => uptoBulk d + uptoBulkAll r
def uptoBulkEntries {H : Type} : List (Lit × DataW H) → Nat
  | [] => 0
  | x :: r => uptoBulkEntry x + uptoBulkEntries r
def uptoBulkEntry {H : Type} : Lit × DataW H → Nat
  | (.string bytes, d) => bytes.length + uptoBulk d + 1
  | (_, d) => uptoBulk d + 1
 end
def uptoSmall : (H : Type) → List (DataW H) → Bool := fun _ ds => decide (uptoBulkAll ds ≤ 1048576)
def OpenSpec.upto (s : _root_.Go.ChangeSpec) : _root_.Go.OpenSpec := { _root_.Go.OpenSpec.ofChange s with cond := some uptoSmall }

/-- 'collimatorlaw02.CrcOf', WHERE WHAT IT READS IS OF BULK AT MOST 1048576: true; the input reads as it did. -/
def crcOfUptoRow : OpenClaim := { program := "ytmbenaehnmdbgaa", sum := "850f426d620eafeabe54abe3a0d9a7bc8b078cc9a95c3b68785cd11f4af5eb62", func := "collimator/collimatorlaw02.CrcOf", spec := "crcOf", unfollowed := true, recurses := true, apart := false, narrowed := true }
def CrcOfUptoSaid : Prop := crcOfUptoRow.holds Try.pinned (OpenSpec.upto crcOfSpec)

/-- 'collimatorlaw02.CrcParts', WHERE WHAT IT READS IS OF BULK AT MOST 1048576: true; the input reads as it did. -/
def crcPartsUptoRow : OpenClaim := { program := "ytmbenaehnmdbgaa", sum := "850f426d620eafeabe54abe3a0d9a7bc8b078cc9a95c3b68785cd11f4af5eb62", func := "collimator/collimatorlaw02.CrcParts", spec := "crcParts", unfollowed := true, recurses := true, apart := false, narrowed := true }
def CrcPartsUptoSaid : Prop := crcPartsUptoRow.holds Try.pinned (OpenSpec.upto crcPartsSpec)

/-- 'collimatorlaw02.CrcTurned', WHERE WHAT IT READS IS OF BULK AT MOST 1048576: true; the input reads as it did. -/
def crcTurnedUptoRow : OpenClaim := { program := "ytmbenaehnmdbgaa", sum := "850f426d620eafeabe54abe3a0d9a7bc8b078cc9a95c3b68785cd11f4af5eb62", func := "collimator/collimatorlaw02.CrcTurned", spec := "crcTurned", unfollowed := true, recurses := true, apart := false, narrowed := true }
def CrcTurnedUptoSaid : Prop := crcTurnedUptoRow.holds Try.pinned (OpenSpec.upto crcTurnedSpec)

/-- 'collimatorlaw02.CrcLinear', WHERE WHAT IT READS IS OF BULK AT MOST 1048576: true; the input reads as it did. -/
def crcLinearUptoRow : OpenClaim := { program := "ytmbenaehnmdbgaa", sum := "850f426d620eafeabe54abe3a0d9a7bc8b078cc9a95c3b68785cd11f4af5eb62", func := "collimator/collimatorlaw02.CrcLinear", spec := "crcLinear", unfollowed := true, recurses := true, apart := false, narrowed := true }
def CrcLinearUptoSaid : Prop := crcLinearUptoRow.holds Try.pinned (OpenSpec.upto crcLinearSpec)

/-- 'collimatorlaw02.CrcTable', WHERE WHAT IT READS IS OF BULK AT MOST 1048576: true; the input reads as it did. -/
def crcTableUptoRow : OpenClaim := { program := "ytmbenaehnmdbgaa", sum := "850f426d620eafeabe54abe3a0d9a7bc8b078cc9a95c3b68785cd11f4af5eb62", func := "collimator/collimatorlaw02.CrcTable", spec := "crcTable", unfollowed := true, recurses := true, apart := false, narrowed := true }
def CrcTableUptoSaid : Prop := crcTableUptoRow.holds Try.pinned (OpenSpec.upto crcTableSpec)

/-- 'collimatorlaw01.VintPuts', WHERE WHAT IT READS IS OF BULK AT MOST 1048576: true; the input reads as it did. -/
def vintPutsUptoRow : OpenClaim := { program := "ytmbenaehnmdbgaa", sum := "850f426d620eafeabe54abe3a0d9a7bc8b078cc9a95c3b68785cd11f4af5eb62", func := "collimator/collimatorlaw01.VintPuts", spec := "vintPuts", apart := false, narrowed := true }
def VintPutsUptoSaid : Prop := vintPutsUptoRow.holds Try.pinned (OpenSpec.upto vintPutsSpec)

/-- 'collimatorlaw01.VintGets', WHERE WHAT IT READS IS OF BULK AT MOST 1048576: true; the input reads as it did. -/
def vintGetsUptoRow : OpenClaim := { program := "ytmbenaehnmdbgaa", sum := "850f426d620eafeabe54abe3a0d9a7bc8b078cc9a95c3b68785cd11f4af5eb62", func := "collimator/collimatorlaw01.VintGets", spec := "vintGets", apart := false, narrowed := true }
def VintGetsUptoSaid : Prop := vintGetsUptoRow.holds Try.pinned (OpenSpec.upto vintGetsSpec)

/-- 'collimatorlaw01.VintBack', WHERE WHAT IT READS IS OF BULK AT MOST 1048576: true; the input reads as it did. -/
def vintBackUptoRow : OpenClaim := { program := "ytmbenaehnmdbgaa", sum := "850f426d620eafeabe54abe3a0d9a7bc8b078cc9a95c3b68785cd11f4af5eb62", func := "collimator/collimatorlaw01.VintBack", spec := "vintBack", apart := false, narrowed := true }
def VintBackUptoSaid : Prop := vintBackUptoRow.holds Try.pinned (OpenSpec.upto vintBackSpec)

/-- 'collimatorlaw01.VintOnly', WHERE WHAT IT READS IS OF BULK AT MOST 1048576: true; the input reads as it did. -/
def vintOnlyUptoRow : OpenClaim := { program := "ytmbenaehnmdbgaa", sum := "850f426d620eafeabe54abe3a0d9a7bc8b078cc9a95c3b68785cd11f4af5eb62", func := "collimator/collimatorlaw01.VintOnly", spec := "vintOnly", apart := false, narrowed := true }
def VintOnlyUptoSaid : Prop := vintOnlyUptoRow.holds Try.pinned (OpenSpec.upto vintOnlySpec)

/-- 'collimatorlaw01.VintRow', WHERE WHAT IT READS IS OF BULK AT MOST 1048576: true; the input reads as it did. -/
def vintRowUptoRow : OpenClaim := { program := "ytmbenaehnmdbgaa", sum := "850f426d620eafeabe54abe3a0d9a7bc8b078cc9a95c3b68785cd11f4af5eb62", func := "collimator/collimatorlaw01.VintRow", spec := "vintRow", apart := false, narrowed := true }
def VintRowUptoSaid : Prop := vintRowUptoRow.holds Try.pinned (OpenSpec.upto vintRowSpec)

end Rows
end Go.Proofs.Ytmbenaehnmdbgaa
