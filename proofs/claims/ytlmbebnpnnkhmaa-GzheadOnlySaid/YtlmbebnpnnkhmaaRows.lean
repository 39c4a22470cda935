/-
  No cell of these rows narrows 'for every input' (looked for: loops, veiled, ifaces, maps, wideKeys, modest, calm, conditions, laid).
  DERIVED. THE GIVEN ROWS OF THIS SEAT. 8 by the template 'for every input the law returns true; each argument reads behind the call as it read before'; 0 by the template 'total and deterministic' (their statements: YtlmbebnpnnkhmaaTotals.lean).
  GIVEN WITH THE SEED: the statements are not yours to turn. If you find one false, say at which input.
  Laid BY PROGRAM, IN A SANDBOX (cutbox-rows.mjs): the forced cells as the released guide's own fill.sh prints them over the translation a8bc527c70ddea23… (all of the seat's roots in one cut). By AI agents, Wed Nov 11 2026. No macro, syntax, notation, axiom, sorry.
-/
import Derived.Test.YtlmbebnpnnkhmaaChecked
import GoSem.Claim
import GoSem.ClaimJoined
import GoSem.ClaimMapViews
import Derived.JoinedTies
import Derived.KernelRfl
namespace Go.Proofs.Ytlmbebnpnnkhmaa
/- THE CELL 'sum', in the pinned program and in every row, IS THE sha256 OF THE DUMP (.gsa) THAT YtlmbebnpnnkhmaaProg.lean LOADS. Nothing in Lean hashes anything: it is a label: what it is worth is what the hold of that sum in a sandbox is worth. -/
noncomputable def Try.pinned : Pinned := { name := "ytlmbebnpnnkhmaa", sum := "a8bc527c70ddea23be59fbe710b73cebb490cc6607ac7396da103c289943c58d", checked := Try.checked }
namespace Rows
def none {H : Type} : Left H := { results := [], args := [] }

/-- 'collimatorlaw26.NodeBuilds': WHATEVER THE INPUT: true; the input reads as it did. -/
def nodeBuildsSpec : ChangeSpec := { name := "nodeBuilds", fn := fun _ => fun
  | [d1, d2] => { results := [.lit (.bool true)], args := [d1, d2] }
  | _ => none }
def nodeBuildsRow : OpenClaim := { program := "ytlmbebnpnnkhmaa", sum := "a8bc527c70ddea23be59fbe710b73cebb490cc6607ac7396da103c289943c58d", func := "collimator/collimatorlaw26.NodeBuilds", spec := "nodeBuilds", apart := false }
def NodeBuildsSaid : Prop := nodeBuildsRow.holds Try.pinned (OpenSpec.ofChange nodeBuildsSpec)

/-- ITS FALSE NEIGHBOUR: 'it returns false'. Refute it at one input. -/
def nodeBuildsWrong : ChangeSpec := { name := "nodeBuilds", fn := fun _ => fun
  | [d1, d2] => { results := [.lit (.bool false)], args := [d1, d2] }
  | _ => none }
def NodeBuildsWrongFalsely : Prop := nodeBuildsRow.holds Try.pinned (OpenSpec.ofChange nodeBuildsWrong)

/-- 'collimatorlaw26.NodeParses': WHATEVER THE INPUT: true; the input reads as it did. -/
def nodeParsesSpec : ChangeSpec := { name := "nodeParses", fn := fun _ => fun
  | [d] => { results := [.lit (.bool true)], args := [d] }
  | _ => none }
def nodeParsesRow : OpenClaim := { program := "ytlmbebnpnnkhmaa", sum := "a8bc527c70ddea23be59fbe710b73cebb490cc6607ac7396da103c289943c58d", func := "collimator/collimatorlaw26.NodeParses", spec := "nodeParses", apart := false }
def NodeParsesSaid : Prop := nodeParsesRow.holds Try.pinned (OpenSpec.ofChange nodeParsesSpec)

/-- ITS FALSE NEIGHBOUR: 'it returns false'. Refute it at one input. -/
def nodeParsesWrong : ChangeSpec := { name := "nodeParses", fn := fun _ => fun
  | [d] => { results := [.lit (.bool false)], args := [d] }
  | _ => none }
def NodeParsesWrongFalsely : Prop := nodeParsesRow.holds Try.pinned (OpenSpec.ofChange nodeParsesWrong)

/-- 'collimatorlaw26.NodeBack': WHATEVER THE INPUT: true; the input reads as it did. -/
def nodeBackSpec : ChangeSpec := { name := "nodeBack", fn := fun _ => fun
  | [d] => { results := [.lit (.bool true)], args := [d] }
  | _ => none }
def nodeBackRow : OpenClaim := { program := "ytlmbebnpnnkhmaa", sum := "a8bc527c70ddea23be59fbe710b73cebb490cc6607ac7396da103c289943c58d", func := "collimator/collimatorlaw26.NodeBack", spec := "nodeBack", apart := false }
def NodeBackSaid : Prop := nodeBackRow.holds Try.pinned (OpenSpec.ofChange nodeBackSpec)

/-- ITS FALSE NEIGHBOUR: 'it returns false'. Refute it at one input. -/
def nodeBackWrong : ChangeSpec := { name := "nodeBack", fn := fun _ => fun
  | [d] => { results := [.lit (.bool false)], args := [d] }
  | _ => none }
def NodeBackWrongFalsely : Prop := nodeBackRow.holds Try.pinned (OpenSpec.ofChange nodeBackWrong)

/-- 'collimatorlaw26.NodeOnly': WHATEVER THE INPUT: true; the input reads as it did. -/
def nodeOnlySpec : ChangeSpec := { name := "nodeOnly", fn := fun _ => fun
  | [d] => { results := [.lit (.bool true)], args := [d] }
  | _ => none }
def nodeOnlyRow : OpenClaim := { program := "ytlmbebnpnnkhmaa", sum := "a8bc527c70ddea23be59fbe710b73cebb490cc6607ac7396da103c289943c58d", func := "collimator/collimatorlaw26.NodeOnly", spec := "nodeOnly", apart := false }
def NodeOnlySaid : Prop := nodeOnlyRow.holds Try.pinned (OpenSpec.ofChange nodeOnlySpec)

/-- ITS FALSE NEIGHBOUR: 'it returns false'. Refute it at one input. -/
def nodeOnlyWrong : ChangeSpec := { name := "nodeOnly", fn := fun _ => fun
  | [d] => { results := [.lit (.bool false)], args := [d] }
  | _ => none }
def NodeOnlyWrongFalsely : Prop := nodeOnlyRow.holds Try.pinned (OpenSpec.ofChange nodeOnlyWrong)

/-- 'collimatorlaw12.GzheadBuilds': WHATEVER THE INPUT: true; the input reads as it did. -/
def gzheadBuildsSpec : ChangeSpec := { name := "gzheadBuilds", fn := fun _ => fun
  | [d] => { results := [.lit (.bool true)], args := [d] }
  | _ => none }
def gzheadBuildsRow : OpenClaim := { program := "ytlmbebnpnnkhmaa", sum := "a8bc527c70ddea23be59fbe710b73cebb490cc6607ac7396da103c289943c58d", func := "collimator/collimatorlaw12.GzheadBuilds", spec := "gzheadBuilds", unfollowed := true, recurses := true, apart := false }
def GzheadBuildsSaid : Prop := gzheadBuildsRow.holds Try.pinned (OpenSpec.ofChange gzheadBuildsSpec)

/-- ITS FALSE NEIGHBOUR: 'it returns false'. Refute it at one input. -/
def gzheadBuildsWrong : ChangeSpec := { name := "gzheadBuilds", fn := fun _ => fun
  | [d] => { results := [.lit (.bool false)], args := [d] }
  | _ => none }
def GzheadBuildsWrongFalsely : Prop := gzheadBuildsRow.holds Try.pinned (OpenSpec.ofChange gzheadBuildsWrong)

/-- 'collimatorlaw12.GzheadParses': WHATEVER THE INPUT: true; the input reads as it did. -/
def gzheadParsesSpec : ChangeSpec := { name := "gzheadParses", fn := fun _ => fun
  | [d1, d2] => { results := [.lit (.bool true)], args := [d1, d2] }
  | _ => none }
def gzheadParsesRow : OpenClaim := { program := "ytlmbebnpnnkhmaa", sum := "a8bc527c70ddea23be59fbe710b73cebb490cc6607ac7396da103c289943c58d", func := "collimator/collimatorlaw12.GzheadParses", spec := "gzheadParses", unfollowed := true, recurses := true, apart := false }
def GzheadParsesSaid : Prop := gzheadParsesRow.holds Try.pinned (OpenSpec.ofChange gzheadParsesSpec)

/-- ITS FALSE NEIGHBOUR: 'it returns false'. Refute it at one input. -/
def gzheadParsesWrong : ChangeSpec := { name := "gzheadParses", fn := fun _ => fun
  | [d1, d2] => { results := [.lit (.bool false)], args := [d1, d2] }
  | _ => none }
def GzheadParsesWrongFalsely : Prop := gzheadParsesRow.holds Try.pinned (OpenSpec.ofChange gzheadParsesWrong)

/-- 'collimatorlaw12.GzheadBack': WHATEVER THE INPUT: true; the input reads as it did. -/
def gzheadBackSpec : ChangeSpec := { name := "gzheadBack", fn := fun _ => fun
  | [d] => { results := [.lit (.bool true)], args := [d] }
  | _ => none }
def gzheadBackRow : OpenClaim := { program := "ytlmbebnpnnkhmaa", sum := "a8bc527c70ddea23be59fbe710b73cebb490cc6607ac7396da103c289943c58d", func := "collimator/collimatorlaw12.GzheadBack", spec := "gzheadBack", unfollowed := true, recurses := true, apart := false }
def GzheadBackSaid : Prop := gzheadBackRow.holds Try.pinned (OpenSpec.ofChange gzheadBackSpec)

/-- ITS FALSE NEIGHBOUR: 'it returns false'. Refute it at one input. -/
def gzheadBackWrong : ChangeSpec := { name := "gzheadBack", fn := fun _ => fun
  | [d] => { results := [.lit (.bool false)], args := [d] }
  | _ => none }
def GzheadBackWrongFalsely : Prop := gzheadBackRow.holds Try.pinned (OpenSpec.ofChange gzheadBackWrong)

/-- 'collimatorlaw12.GzheadOnly': WHATEVER THE INPUT: true; the input reads as it did. -/
def gzheadOnlySpec : ChangeSpec := { name := "gzheadOnly", fn := fun _ => fun
  | [d] => { results := [.lit (.bool true)], args := [d] }
  | _ => none }
def gzheadOnlyRow : OpenClaim := { program := "ytlmbebnpnnkhmaa", sum := "a8bc527c70ddea23be59fbe710b73cebb490cc6607ac7396da103c289943c58d", func := "collimator/collimatorlaw12.GzheadOnly", spec := "gzheadOnly", unfollowed := true, recurses := true, apart := false }
def GzheadOnlySaid : Prop := gzheadOnlyRow.holds Try.pinned (OpenSpec.ofChange gzheadOnlySpec)

/-- ITS FALSE NEIGHBOUR: 'it returns false'. Refute it at one input. -/
def gzheadOnlyWrong : ChangeSpec := { name := "gzheadOnly", fn := fun _ => fun
  | [d] => { results := [.lit (.bool false)], args := [d] }
  | _ => none }
def GzheadOnlyWrongFalsely : Prop := gzheadOnlyRow.holds Try.pinned (OpenSpec.ofChange gzheadOnlyWrong)

/- THE SECOND FORM. 'bulk': how many values and letters a reading holds, each counted each time it is reached (what is shared counts as often as it is met; a slice's spare places count too). A statement '..UptoSaid' is the law's where the arguments, and the package variables that the reading takes, are together of bulk at most 1048576: NARROWER than '..Said'. Prove '..Said' where nothing that the law and all that it calls make is longer than what came in: it says more and counts as full. Else prove '..UptoSaid'. A law counts once. -/
mutual
def uptoBulk {H : Type} : DataW H → Nat
  | .lit (.string bytes) => bytes.length + 1
  | .lit _ => 1
  | .nil => 1
  | .ptr d => uptoBulk d + 1
  | .slice elems spare => uptoBulkAll elems + uptoBulkAll spare + 1
  | .agg parts => uptoBulkAll parts + 1
  | .iface _ d => uptoBulk d + 1
  | .map entries => uptoBulkEntries entries + 1
  | .held _ => 1
def uptoBulkAll {H : Type} : List (DataW H) → Nat
  | [] => 0
  | d :: r => uptoBulk d + uptoBulkAll r
def uptoBulkEntries {H : Type} : List (Lit × DataW H) → Nat
  | [] => 0
  | x :: r => uptoBulkEntry x + uptoBulkEntries r
def uptoBulkEntry {H : Type} : Lit × DataW H → Nat
  | (.string bytes, d) => bytes.length + uptoBulk d + 1
  | (_, d) => uptoBulk d + 1
 end
def uptoSmall : (H : Type) → List (DataW H) → Bool := fun _ ds => decide (uptoBulkAll ds ≤ 1048576)
def OpenSpec.upto (s : _root_.Go.ChangeSpec) : _root_.Go.OpenSpec := { _root_.Go.OpenSpec.ofChange s with cond := some uptoSmall }

/-- 'collimatorlaw26.NodeBuilds', WHERE WHAT IT READS IS OF BULK AT MOST 1048576: true; the input reads as it did. -/
def nodeBuildsUptoRow : OpenClaim := { program := "ytlmbebnpnnkhmaa", sum := "a8bc527c70ddea23be59fbe710b73cebb490cc6607ac7396da103c289943c58d", func := "collimator/collimatorlaw26.NodeBuilds", spec := "nodeBuilds", apart := false, narrowed := true }
def NodeBuildsUptoSaid : Prop := nodeBuildsUptoRow.holds Try.pinned (OpenSpec.upto nodeBuildsSpec)

/-- 'collimatorlaw26.NodeParses', WHERE WHAT IT READS IS OF BULK AT MOST 1048576: true; the input reads as it did. -/
def nodeParsesUptoRow : OpenClaim := { program := "ytlmbebnpnnkhmaa", sum := "a8bc527c70ddea23be59fbe710b73cebb490cc6607ac7396da103c289943c58d", func := "collimator/collimatorlaw26.NodeParses", spec := "nodeParses", apart := false, narrowed := true }
def NodeParsesUptoSaid : Prop := nodeParsesUptoRow.holds Try.pinned (OpenSpec.upto nodeParsesSpec)

/-- 'collimatorlaw26.NodeBack', WHERE WHAT IT READS IS OF BULK AT MOST 1048576: true; the input reads as it did. -/
def nodeBackUptoRow : OpenClaim := { program := "ytlmbebnpnnkhmaa", sum := "a8bc527c70ddea23be59fbe710b73cebb490cc6607ac7396da103c289943c58d", func := "collimator/collimatorlaw26.NodeBack", spec := "nodeBack", apart := false, narrowed := true }
def NodeBackUptoSaid : Prop := nodeBackUptoRow.holds Try.pinned (OpenSpec.upto nodeBackSpec)

/-- 'collimatorlaw26.NodeOnly', WHERE WHAT IT READS IS OF BULK AT MOST 1048576: true; the input reads as it did. -/
def nodeOnlyUptoRow : OpenClaim := { program := "ytlmbebnpnnkhmaa", sum := "a8bc527c70ddea23be59fbe710b73cebb490cc6607ac7396da103c289943c58d", func := "collimator/collimatorlaw26.NodeOnly", spec := "nodeOnly", apart := false, narrowed := true }
def NodeOnlyUptoSaid : Prop := nodeOnlyUptoRow.holds Try.pinned (OpenSpec.upto nodeOnlySpec)

/-- 'collimatorlaw12.GzheadBuilds', WHERE WHAT IT READS IS OF BULK AT MOST 1048576: true; the input reads as it did. -/
def gzheadBuildsUptoRow : OpenClaim := { program := "ytlmbebnpnnkhmaa", sum := "a8bc527c70ddea23be59fbe710b73cebb490cc6607ac7396da103c289943c58d", func := "collimator/collimatorlaw12.GzheadBuilds", spec := "gzheadBuilds", unfollowed := true, recurses := true, apart := false, narrowed := true }
def GzheadBuildsUptoSaid : Prop := gzheadBuildsUptoRow.holds Try.pinned (OpenSpec.upto gzheadBuildsSpec)

/-- 'collimatorlaw12.GzheadParses', WHERE WHAT IT READS IS OF BULK AT MOST 1048576: true; the input reads as it did. -/
def gzheadParsesUptoRow : OpenClaim := { program := "ytlmbebnpnnkhmaa", sum := "a8bc527c70ddea23be59fbe710b73cebb490cc6607ac7396da103c289943c58d", func := "collimator/collimatorlaw12.GzheadParses", spec := "gzheadParses", unfollowed := true, recurses := true, apart := false, narrowed := true }
def GzheadParsesUptoSaid : Prop := gzheadParsesUptoRow.holds Try.pinned (OpenSpec.upto gzheadParsesSpec)

/-- 'collimatorlaw12.GzheadBack', WHERE WHAT IT READS IS OF BULK AT MOST 1048576: true; the input reads as it did. -/
def gzheadBackUptoRow : OpenClaim := { program := "ytlmbebnpnnkhmaa", sum := "a8bc527c70ddea23be59fbe710b73cebb490cc6607ac7396da103c289943c58d", func := "collimator/collimatorlaw12.GzheadBack", spec := "gzheadBack", unfollowed := true, recurses := true, apart := false, narrowed := true }
def GzheadBackUptoSaid : Prop := gzheadBackUptoRow.holds Try.pinned (OpenSpec.upto gzheadBackSpec)

/-- 'collimatorlaw12.GzheadOnly', WHERE WHAT IT READS IS OF BULK AT MOST 1048576: true; the input reads as it did. -/
def gzheadOnlyUptoRow : OpenClaim := { program := "ytlmbebnpnnkhmaa", sum := "a8bc527c70ddea23be59fbe710b73cebb490cc6607ac7396da103c289943c58d", func := "collimator/collimatorlaw12.GzheadOnly", spec := "gzheadOnly", unfollowed := true, recurses := true, apart := false, narrowed := true }
def GzheadOnlyUptoSaid : Prop := gzheadOnlyUptoRow.holds Try.pinned (OpenSpec.upto gzheadOnlySpec)

end Rows
end Go.Proofs.Ytlmbebnpnnkhmaa
