/-
  No cell of these rows narrows 'for every input' (looked for: loops, veiled, ifaces, maps, wideKeys, modest, calm, conditions, laid).
  DERIVED. THE GIVEN ROWS OF THIS SEAT. 7 by the template 'for every input the law returns true; each argument reads behind the call as it read before'; 0 by the template 'total and deterministic' (their statements: YtldidoaagijnhaaTotals.lean).
  GIVEN WITH THE SEED: the statements are not yours to turn. If you find one false, say at which input.
  Laid BY PROGRAM, IN A SANDBOX (cutbox-rows.mjs): the forced cells as the released guide's own fill.sh prints them over the translation 28d2731b9043943c… (all of the seat's roots in one cut). By AI agents, Wed Nov 11 2026. No macro, syntax, notation, axiom, sorry.
-/
import Derived.Test.YtldidoaagijnhaaChecked
import GoSem.Claim
import GoSem.ClaimJoined
import GoSem.ClaimMapViews
import Derived.JoinedTies
import Derived.KernelRfl
namespace Go.Proofs.Ytldidoaagijnhaa
/- THE CELL 'sum', in the pinned program and in every row, IS THE sha256 OF THE DUMP (.gsa) THAT YtldidoaagijnhaaProg.lean LOADS. Nothing in Lean hashes anything: it is a label: what it is worth is what the hold of that sum in a sandbox is worth. -/
noncomputable def Try.pinned : Pinned := { name := "ytldidoaagijnhaa", sum := "28d2731b9043943cf1fc2a9455561b214a1603af15ccdc81157d0ac97480fcc2", checked := Try.checked }
namespace Rows
def none {H : Type} : Left H := { results := [], args := [] }

/-- 'collimatorlaw25.PagesTurned': WHATEVER THE INPUT: true; the input reads as it did. -/
def pagesTurnedSpec : ChangeSpec := { name := "pagesTurned", fn := fun _ => fun
  | [d1, d2, d3] => { results := [.lit (.bool true)], args := [d1, d2, d3] }
  | _ => none }
def pagesTurnedRow : OpenClaim := { program := "ytldidoaagijnhaa", sum := "28d2731b9043943cf1fc2a9455561b214a1603af15ccdc81157d0ac97480fcc2", func := "collimator/collimatorlaw25.PagesTurned", spec := "pagesTurned", unfollowed := true, recurses := true, apart := false }
def PagesTurnedSaid : Prop := pagesTurnedRow.holds Try.pinned (OpenSpec.ofChange pagesTurnedSpec)

/-- ITS FALSE NEIGHBOUR: 'it returns false'. Refute it at one input. -/
def pagesTurnedWrong : ChangeSpec := { name := "pagesTurned", fn := fun _ => fun
  | [d1, d2, d3] => { results := [.lit (.bool false)], args := [d1, d2, d3] }
  | _ => none }
def PagesTurnedWrongFalsely : Prop := pagesTurnedRow.holds Try.pinned (OpenSpec.ofChange pagesTurnedWrong)

/-- 'collimatorlaw25.PagesOpens': WHATEVER THE INPUT: true; the input reads as it did. -/
def pagesOpensSpec : ChangeSpec := { name := "pagesOpens", fn := fun _ => fun
  | [d1, d2] => { results := [.lit (.bool true)], args := [d1, d2] }
  | _ => none }
def pagesOpensRow : OpenClaim := { program := "ytldidoaagijnhaa", sum := "28d2731b9043943cf1fc2a9455561b214a1603af15ccdc81157d0ac97480fcc2", func := "collimator/collimatorlaw25.PagesOpens", spec := "pagesOpens", unfollowed := true, recurses := true, apart := false }
def PagesOpensSaid : Prop := pagesOpensRow.holds Try.pinned (OpenSpec.ofChange pagesOpensSpec)

/-- ITS FALSE NEIGHBOUR: 'it returns false'. Refute it at one input. -/
def pagesOpensWrong : ChangeSpec := { name := "pagesOpens", fn := fun _ => fun
  | [d1, d2] => { results := [.lit (.bool false)], args := [d1, d2] }
  | _ => none }
def PagesOpensWrongFalsely : Prop := pagesOpensRow.holds Try.pinned (OpenSpec.ofChange pagesOpensWrong)

/-- 'collimatorlaw21.TableBuilds': WHATEVER THE INPUT: true; the input reads as it did. -/
def tableBuildsSpec : ChangeSpec := { name := "tableBuilds", fn := fun _ => fun
  | [d] => { results := [.lit (.bool true)], args := [d] }
  | _ => none }
def tableBuildsRow : OpenClaim := { program := "ytldidoaagijnhaa", sum := "28d2731b9043943cf1fc2a9455561b214a1603af15ccdc81157d0ac97480fcc2", func := "collimator/collimatorlaw21.TableBuilds", spec := "tableBuilds", unfollowed := true, recurses := true, apart := false }
def TableBuildsSaid : Prop := tableBuildsRow.holds Try.pinned (OpenSpec.ofChange tableBuildsSpec)

/-- ITS FALSE NEIGHBOUR: 'it returns false'. Refute it at one input. -/
def tableBuildsWrong : ChangeSpec := { name := "tableBuilds", fn := fun _ => fun
  | [d] => { results := [.lit (.bool false)], args := [d] }
  | _ => none }
def TableBuildsWrongFalsely : Prop := tableBuildsRow.holds Try.pinned (OpenSpec.ofChange tableBuildsWrong)

/-- 'collimatorlaw21.TableParses': WHATEVER THE INPUT: true; the input reads as it did. -/
def tableParsesSpec : ChangeSpec := { name := "tableParses", fn := fun _ => fun
  | [d] => { results := [.lit (.bool true)], args := [d] }
  | _ => none }
def tableParsesRow : OpenClaim := { program := "ytldidoaagijnhaa", sum := "28d2731b9043943cf1fc2a9455561b214a1603af15ccdc81157d0ac97480fcc2", func := "collimator/collimatorlaw21.TableParses", spec := "tableParses", unfollowed := true, recurses := true, apart := false }
def TableParsesSaid : Prop := tableParsesRow.holds Try.pinned (OpenSpec.ofChange tableParsesSpec)

/-- ITS FALSE NEIGHBOUR: 'it returns false'. Refute it at one input. -/
def tableParsesWrong : ChangeSpec := { name := "tableParses", fn := fun _ => fun
  | [d] => { results := [.lit (.bool false)], args := [d] }
  | _ => none }
def TableParsesWrongFalsely : Prop := tableParsesRow.holds Try.pinned (OpenSpec.ofChange tableParsesWrong)

/-- 'collimatorlaw21.TableBack': WHATEVER THE INPUT: true; the input reads as it did. -/
def tableBackSpec : ChangeSpec := { name := "tableBack", fn := fun _ => fun
  | [d1, d2, d3] => { results := [.lit (.bool true)], args := [d1, d2, d3] }
  | _ => none }
def tableBackRow : OpenClaim := { program := "ytldidoaagijnhaa", sum := "28d2731b9043943cf1fc2a9455561b214a1603af15ccdc81157d0ac97480fcc2", func := "collimator/collimatorlaw21.TableBack", spec := "tableBack", unfollowed := true, recurses := true, apart := false }
def TableBackSaid : Prop := tableBackRow.holds Try.pinned (OpenSpec.ofChange tableBackSpec)

/-- ITS FALSE NEIGHBOUR: 'it returns false'. Refute it at one input. -/
def tableBackWrong : ChangeSpec := { name := "tableBack", fn := fun _ => fun
  | [d1, d2, d3] => { results := [.lit (.bool false)], args := [d1, d2, d3] }
  | _ => none }
def TableBackWrongFalsely : Prop := tableBackRow.holds Try.pinned (OpenSpec.ofChange tableBackWrong)

/-- 'collimatorlaw21.TableOnly': WHATEVER THE INPUT: true; the input reads as it did. -/
def tableOnlySpec : ChangeSpec := { name := "tableOnly", fn := fun _ => fun
  | [d] => { results := [.lit (.bool true)], args := [d] }
  | _ => none }
def tableOnlyRow : OpenClaim := { program := "ytldidoaagijnhaa", sum := "28d2731b9043943cf1fc2a9455561b214a1603af15ccdc81157d0ac97480fcc2", func := "collimator/collimatorlaw21.TableOnly", spec := "tableOnly", unfollowed := true, recurses := true, apart := false }
def TableOnlySaid : Prop := tableOnlyRow.holds Try.pinned (OpenSpec.ofChange tableOnlySpec)

/-- ITS FALSE NEIGHBOUR: 'it returns false'. Refute it at one input. -/
def tableOnlyWrong : ChangeSpec := { name := "tableOnly", fn := fun _ => fun
  | [d] => { results := [.lit (.bool false)], args := [d] }
  | _ => none }
def TableOnlyWrongFalsely : Prop := tableOnlyRow.holds Try.pinned (OpenSpec.ofChange tableOnlyWrong)

/-- 'collimatorlaw25.PagesNil': WHATEVER THE INPUT: true; the input reads as it did. -/
def pagesNilSpec : ChangeSpec := { name := "pagesNil", fn := fun _ => fun
  | [d1, d2] => { results := [.lit (.bool true)], args := [d1, d2] }
  | _ => none }
def pagesNilRow : OpenClaim := { program := "ytldidoaagijnhaa", sum := "28d2731b9043943cf1fc2a9455561b214a1603af15ccdc81157d0ac97480fcc2", func := "collimator/collimatorlaw25.PagesNil", spec := "pagesNil", unfollowed := true, recurses := true, apart := false }
def PagesNilSaid : Prop := pagesNilRow.holds Try.pinned (OpenSpec.ofChange pagesNilSpec)

/-- ITS FALSE NEIGHBOUR: 'it returns false'. Refute it at one input. -/
def pagesNilWrong : ChangeSpec := { name := "pagesNil", fn := fun _ => fun
  | [d1, d2] => { results := [.lit (.bool false)], args := [d1, d2] }
  | _ => none }
def PagesNilWrongFalsely : Prop := pagesNilRow.holds Try.pinned (OpenSpec.ofChange pagesNilWrong)

/- THE SECOND FORM. 'bulk': how many values and letters a reading holds, each counted each time it is reached (what is shared counts as often as it is met; a slice's spare places count too). A statement '..UptoSaid' is the law's where the arguments, and the package variables that the reading takes, are together of bulk at most 1048576: NARROWER than '..Said'. Prove '..Said' where nothing that the law and all that it calls make is longer than what came in: it says more and counts as full. Else prove '..UptoSaid'. A law counts once. -/
mutual
def uptoBulk {H : Type} : DataW H → Nat
  | .lit (.string bytes) => bytes.length + 1
  | .lit _ => 1
  | .nil => 1
  | .ptr d => uptoBulk d + 1
  | .slice elems spare => uptoBulkAll elems + uptoBulkAll spare + 1
  | .agg parts => uptoBulkAll parts + 1
  | .iface _ d => uptoBulk d + 1
  | .map entries => uptoBulkEntries entries + 1
  | .held _ => 1
def uptoBulkAll {H : Type} : List (DataW H) → Nat
  | [] => 0
  | d :: r => uptoBulk d + uptoBulkAll r
def uptoBulkEntries {H : Type} : List (Lit × DataW H) → Nat
  | [] => 0
  | x :: r => uptoBulkEntry x + uptoBulkEntries r
def uptoBulkEntry {H : Type} : Lit × DataW H → Nat
  | (.string bytes, d) => bytes.length + uptoBulk d + 1
  | (_, d) => uptoBulk d + 1
 end
def uptoSmall : (H : Type) → List (DataW H) → Bool := fun _ ds => decide (uptoBulkAll ds ≤ 1048576)
def OpenSpec.upto (s : _root_.Go.ChangeSpec) : _root_.Go.OpenSpec := { _root_.Go.OpenSpec.ofChange s with cond := some uptoSmall }

/-- 'collimatorlaw25.PagesTurned', WHERE WHAT IT READS IS OF BULK AT MOST 1048576: true; the input reads as it did. -/
def pagesTurnedUptoRow : OpenClaim := { program := "ytldidoaagijnhaa", sum := "28d2731b9043943cf1fc2a9455561b214a1603af15ccdc81157d0ac97480fcc2", func := "collimator/collimatorlaw25.PagesTurned", spec := "pagesTurned", unfollowed := true, recurses := true, apart := false, narrowed := true }
def PagesTurnedUptoSaid : Prop := pagesTurnedUptoRow.holds Try.pinned (OpenSpec.upto pagesTurnedSpec)

/-- 'collimatorlaw25.PagesOpens', WHERE WHAT IT READS IS OF BULK AT MOST 1048576: true; the input reads as it did. -/
def pagesOpensUptoRow : OpenClaim := { program := "ytldidoaagijnhaa", sum := "28d2731b9043943cf1fc2a9455561b214a1603af15ccdc81157d0ac97480fcc2", func := "collimator/collimatorlaw25.PagesOpens", spec := "pagesOpens", unfollowed := true, recurses := true, apart := false, narrowed := true }
def PagesOpensUptoSaid : Prop := pagesOpensUptoRow.holds Try.pinned (OpenSpec.upto pagesOpensSpec)

/-- 'collimatorlaw21.TableBuilds', WHERE WHAT IT READS IS OF BULK AT MOST 1048576: true; the input reads as it did. -/
def tableBuildsUptoRow : OpenClaim := { program := "ytldidoaagijnhaa", sum := "28d2731b9043943cf1fc2a9455561b214a1603af15ccdc81157d0ac97480fcc2", func := "collimator/collimatorlaw21.TableBuilds", spec := "tableBuilds", unfollowed := true, recurses := true, apart := false, narrowed := true }
def TableBuildsUptoSaid : Prop := tableBuildsUptoRow.holds Try.pinned (OpenSpec.upto tableBuildsSpec)

/-- 'collimatorlaw21.TableParses', WHERE WHAT IT READS IS OF BULK AT MOST 1048576: true; the input reads as it did. -/
def tableParsesUptoRow : OpenClaim := { program := "ytldidoaagijnhaa", sum := "28d2731b9043943cf1fc2a9455561b214a1603af15ccdc81157d0ac97480fcc2", func := "collimator/collimatorlaw21.TableParses", spec := "tableParses", unfollowed := true, recurses := true, apart := false, narrowed := true }
def TableParsesUptoSaid : Prop := tableParsesUptoRow.holds Try.pinned (OpenSpec.upto tableParsesSpec)

/-- 'collimatorlaw21.TableBack', WHERE WHAT IT READS IS OF BULK AT MOST 1048576: true; the input reads as it did. -/
def tableBackUptoRow : OpenClaim := { program := "ytldidoaagijnhaa", sum := "28d2731b9043943cf1fc2a9455561b214a1603af15ccdc81157d0ac97480fcc2", func := "collimator/collimatorlaw21.TableBack", spec := "tableBack", unfollowed := true, recurses := true, apart := false, narrowed := true }
def TableBackUptoSaid : Prop := tableBackUptoRow.holds Try.pinned (OpenSpec.upto tableBackSpec)

/-- 'collimatorlaw21.TableOnly', WHERE WHAT IT READS IS OF BULK AT MOST 1048576: true; the input reads as it did. -/
def tableOnlyUptoRow : OpenClaim := { program := "ytldidoaagijnhaa", sum := "28d2731b9043943cf1fc2a9455561b214a1603af15ccdc81157d0ac97480fcc2", func := "collimator/collimatorlaw21.TableOnly", spec := "tableOnly", unfollowed := true, recurses := true, apart := false, narrowed := true }
def TableOnlyUptoSaid : Prop := tableOnlyUptoRow.holds Try.pinned (OpenSpec.upto tableOnlySpec)

/-- 'collimatorlaw25.PagesNil', WHERE WHAT IT READS IS OF BULK AT MOST 1048576: true; the input reads as it did. -/
def pagesNilUptoRow : OpenClaim := { program := "ytldidoaagijnhaa", sum := "28d2731b9043943cf1fc2a9455561b214a1603af15ccdc81157d0ac97480fcc2", func := "collimator/collimatorlaw25.PagesNil", spec := "pagesNil", unfollowed := true, recurses := true, apart := false, narrowed := true }
def PagesNilUptoSaid : Prop := pagesNilUptoRow.holds Try.pinned (OpenSpec.upto pagesNilSpec)

end Rows
end Go.Proofs.Ytldidoaagijnhaa
