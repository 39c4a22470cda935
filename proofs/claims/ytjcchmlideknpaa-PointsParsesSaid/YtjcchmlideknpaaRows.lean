/-
  No cell of these rows narrows 'for every input' (looked for: loops, veiled, ifaces, maps, wideKeys, modest, calm, conditions, laid).
  DERIVED. THE GIVEN ROWS OF THIS SEAT. 5 by the template 'for every input the law returns true; each argument reads behind the call as it read before'; 0 by the template 'total and deterministic' (their statements: YtjcchmlideknpaaTotals.lean).
  GIVEN WITH THE SEED: the statements are not yours to turn. If you find one false, say at which input.
  Laid BY PROGRAM, IN A SANDBOX (cutbox-rows.mjs): the forced cells as the released guide's own fill.sh prints them over the translation badcb4de6042dea2… (all of the seat's roots in one cut). By AI agents, Wed Nov 11 2026. No macro, syntax, notation, axiom, sorry.
-/
import Derived.Test.YtjcchmlideknpaaChecked
import GoSem.Claim
import GoSem.ClaimJoined
import GoSem.ClaimMapViews
import Derived.JoinedTies
import Derived.KernelRfl
namespace Go.Proofs.Ytjcchmlideknpaa
/- THE CELL 'sum', in the pinned program and in every row, IS THE sha256 OF THE DUMP (.gsa) THAT YtjcchmlideknpaaProg.lean LOADS. Nothing in Lean hashes anything: it is a label: what it is worth is what the hold of that sum in a sandbox is worth. -/
noncomputable def Try.pinned : Pinned := { name := "ytjcchmlideknpaa", sum := "badcb4de6042dea28b2973ec0f94555c74d0fb28a0b8e619cd401799bf58181f", checked := Try.checked }
namespace Rows
def none {H : Type} : Left H := { results := [], args := [] }

/-- 'collimatorlaw28.PointsRight': WHATEVER THE INPUT: true; the input reads as it did. -/
def pointsRightSpec : ChangeSpec := { name := "pointsRight", fn := fun _ => fun
  | [d1, d2] => { results := [.lit (.bool true)], args := [d1, d2] }
  | _ => none }
def pointsRightRow : OpenClaim := { program := "ytjcchmlideknpaa", sum := "badcb4de6042dea28b2973ec0f94555c74d0fb28a0b8e619cd401799bf58181f", func := "collimator/collimatorlaw28.PointsRight", spec := "pointsRight", unfollowed := true, recurses := true, apart := false }
def PointsRightSaid : Prop := pointsRightRow.holds Try.pinned (OpenSpec.ofChange pointsRightSpec)

/-- ITS FALSE NEIGHBOUR: 'it returns false'. Refute it at one input. -/
def pointsRightWrong : ChangeSpec := { name := "pointsRight", fn := fun _ => fun
  | [d1, d2] => { results := [.lit (.bool false)], args := [d1, d2] }
  | _ => none }
def PointsRightWrongFalsely : Prop := pointsRightRow.holds Try.pinned (OpenSpec.ofChange pointsRightWrong)

/-- 'collimatorlaw28.PointsPick': WHATEVER THE INPUT: true; the input reads as it did. -/
def pointsPickSpec : ChangeSpec := { name := "pointsPick", fn := fun _ => fun
  | [d] => { results := [.lit (.bool true)], args := [d] }
  | _ => none }
def pointsPickRow : OpenClaim := { program := "ytjcchmlideknpaa", sum := "badcb4de6042dea28b2973ec0f94555c74d0fb28a0b8e619cd401799bf58181f", func := "collimator/collimatorlaw28.PointsPick", spec := "pointsPick", unfollowed := true, recurses := true, apart := false }
def PointsPickSaid : Prop := pointsPickRow.holds Try.pinned (OpenSpec.ofChange pointsPickSpec)

/-- ITS FALSE NEIGHBOUR: 'it returns false'. Refute it at one input. -/
def pointsPickWrong : ChangeSpec := { name := "pointsPick", fn := fun _ => fun
  | [d] => { results := [.lit (.bool false)], args := [d] }
  | _ => none }
def PointsPickWrongFalsely : Prop := pointsPickRow.holds Try.pinned (OpenSpec.ofChange pointsPickWrong)

/-- 'collimatorlaw28.PointsApart': WHATEVER THE INPUT: true; the input reads as it did. -/
def pointsApartSpec : ChangeSpec := { name := "pointsApart", fn := fun _ => fun
  | [d] => { results := [.lit (.bool true)], args := [d] }
  | _ => none }
def pointsApartRow : OpenClaim := { program := "ytjcchmlideknpaa", sum := "badcb4de6042dea28b2973ec0f94555c74d0fb28a0b8e619cd401799bf58181f", func := "collimator/collimatorlaw28.PointsApart", spec := "pointsApart", unfollowed := true, recurses := true, apart := false }
def PointsApartSaid : Prop := pointsApartRow.holds Try.pinned (OpenSpec.ofChange pointsApartSpec)

/-- ITS FALSE NEIGHBOUR: 'it returns false'. Refute it at one input. -/
def pointsApartWrong : ChangeSpec := { name := "pointsApart", fn := fun _ => fun
  | [d] => { results := [.lit (.bool false)], args := [d] }
  | _ => none }
def PointsApartWrongFalsely : Prop := pointsApartRow.holds Try.pinned (OpenSpec.ofChange pointsApartWrong)

/-- 'collimatorlaw28.PointsParses': WHATEVER THE INPUT: true; the input reads as it did. -/
def pointsParsesSpec : ChangeSpec := { name := "pointsParses", fn := fun _ => fun
  | [d] => { results := [.lit (.bool true)], args := [d] }
  | _ => none }
def pointsParsesRow : OpenClaim := { program := "ytjcchmlideknpaa", sum := "badcb4de6042dea28b2973ec0f94555c74d0fb28a0b8e619cd401799bf58181f", func := "collimator/collimatorlaw28.PointsParses", spec := "pointsParses", unfollowed := true, recurses := true, apart := false }
def PointsParsesSaid : Prop := pointsParsesRow.holds Try.pinned (OpenSpec.ofChange pointsParsesSpec)

/-- ITS FALSE NEIGHBOUR: 'it returns false'. Refute it at one input. -/
def pointsParsesWrong : ChangeSpec := { name := "pointsParses", fn := fun _ => fun
  | [d] => { results := [.lit (.bool false)], args := [d] }
  | _ => none }
def PointsParsesWrongFalsely : Prop := pointsParsesRow.holds Try.pinned (OpenSpec.ofChange pointsParsesWrong)

/-- 'collimatorlaw28.PointsBack': WHATEVER THE INPUT: true; the input reads as it did. -/
def pointsBackSpec : ChangeSpec := { name := "pointsBack", fn := fun _ => fun
  | [d1, d2] => { results := [.lit (.bool true)], args := [d1, d2] }
  | _ => none }
def pointsBackRow : OpenClaim := { program := "ytjcchmlideknpaa", sum := "badcb4de6042dea28b2973ec0f94555c74d0fb28a0b8e619cd401799bf58181f", func := "collimator/collimatorlaw28.PointsBack", spec := "pointsBack", unfollowed := true, recurses := true, apart := false }
def PointsBackSaid : Prop := pointsBackRow.holds Try.pinned (OpenSpec.ofChange pointsBackSpec)

/-- ITS FALSE NEIGHBOUR: 'it returns false'. Refute it at one input. -/
def pointsBackWrong : ChangeSpec := { name := "pointsBack", fn := fun _ => fun
  | [d1, d2] => { results := [.lit (.bool false)], args := [d1, d2] }
  | _ => none }
def PointsBackWrongFalsely : Prop := pointsBackRow.holds Try.pinned (OpenSpec.ofChange pointsBackWrong)

/- THE SECOND FORM. 'bulk': how many values and letters a reading holds, each counted each time it is reached (what is shared counts as often as it is met; a slice's spare places count too). A statement '..UptoSaid' is the law's where the arguments, and the package variables that the reading takes, are together of bulk at most 1048576: NARROWER than '..Said'. Prove '..Said' where nothing that the law and all that it calls make is longer than what came in: it says more and counts as full. Else prove '..UptoSaid'. A law counts once. -/
mutual
def uptoBulk {H : Type} : DataW H → Nat
  | .lit (.string bytes) => bytes.length + 1
  | .lit _ => 1
  | .nil => 1
  | .ptr d => uptoBulk d + 1
  | .slice elems spare => uptoBulkAll elems + uptoBulkAll spare + 1
  | .agg parts => uptoBulkAll parts + 1
  | .iface _ d => uptoBulk d + 1
  | .map entries => uptoBulkEntries entries + 1
  | .held _ => 1
def uptoBulkAll {H : Type} : List (DataW H) → Nat
  | [] => 0
  | d :: r => uptoBulk d + uptoBulkAll r
def uptoBulkEntries {H : Type} : List (Lit × DataW H) → Nat
  | [] => 0
  | x :: r => uptoBulkEntry x + uptoBulkEntries r
def uptoBulkEntry {H : Type} : Lit × DataW H → Nat
  | (.string bytes, d) => bytes.length + uptoBulk d + 1
  | (_, d) => uptoBulk d + 1
 end
def uptoSmall : (H : Type) → List (DataW H) → Bool := fun _ ds => decide (uptoBulkAll ds ≤ 1048576)
def OpenSpec.upto (s : _root_.Go.ChangeSpec) : _root_.Go.OpenSpec := { _root_.Go.OpenSpec.ofChange s with cond := some uptoSmall }

/-- 'collimatorlaw28.PointsRight', WHERE WHAT IT READS IS OF BULK AT MOST 1048576: true; the input reads as it did. -/
def pointsRightUptoRow : OpenClaim := { program := "ytjcchmlideknpaa", sum := "badcb4de6042dea28b2973ec0f94555c74d0fb28a0b8e619cd401799bf58181f", func := "collimator/collimatorlaw28.PointsRight", spec := "pointsRight", unfollowed := true, recurses := true, apart := false, narrowed := true }
def PointsRightUptoSaid : Prop := pointsRightUptoRow.holds Try.pinned (OpenSpec.upto pointsRightSpec)

/-- 'collimatorlaw28.PointsPick', WHERE WHAT IT READS IS OF BULK AT MOST 1048576: true; the input reads as it did. -/
def pointsPickUptoRow : OpenClaim := { program := "ytjcchmlideknpaa", sum := "badcb4de6042dea28b2973ec0f94555c74d0fb28a0b8e619cd401799bf58181f", func := "collimator/collimatorlaw28.PointsPick", spec := "pointsPick", unfollowed := true, recurses := true, apart := false, narrowed := true }
def PointsPickUptoSaid : Prop := pointsPickUptoRow.holds Try.pinned (OpenSpec.upto pointsPickSpec)

/-- 'collimatorlaw28.PointsApart', WHERE WHAT IT READS IS OF BULK AT MOST 1048576: true; the input reads as it did. -/
def pointsApartUptoRow : OpenClaim := { program := "ytjcchmlideknpaa", sum := "badcb4de6042dea28b2973ec0f94555c74d0fb28a0b8e619cd401799bf58181f", func := "collimator/collimatorlaw28.PointsApart", spec := "pointsApart", unfollowed := true, recurses := true, apart := false, narrowed := true }
def PointsApartUptoSaid : Prop := pointsApartUptoRow.holds Try.pinned (OpenSpec.upto pointsApartSpec)

/-- 'collimatorlaw28.PointsParses', WHERE WHAT IT READS IS OF BULK AT MOST 1048576: true; the input reads as it did. -/
def pointsParsesUptoRow : OpenClaim := { program := "ytjcchmlideknpaa", sum := "badcb4de6042dea28b2973ec0f94555c74d0fb28a0b8e619cd401799bf58181f", func := "collimator/collimatorlaw28.PointsParses", spec := "pointsParses", unfollowed := true, recurses := true, apart := false, narrowed := true }
def PointsParsesUptoSaid : Prop := pointsParsesUptoRow.holds Try.pinned (OpenSpec.upto pointsParsesSpec)

/-- 'collimatorlaw28.PointsBack', WHERE WHAT IT READS IS OF BULK AT MOST 1048576: true; the input reads as it did. -/
def pointsBackUptoRow : OpenClaim := { program := "ytjcchmlideknpaa", sum := "badcb4de6042dea28b2973ec0f94555c74d0fb28a0b8e619cd401799bf58181f", func := "collimator/collimatorlaw28.PointsBack", spec := "pointsBack", unfollowed := true, recurses := true, apart := false, narrowed := true }
def PointsBackUptoSaid : Prop := pointsBackUptoRow.holds Try.pinned (OpenSpec.upto pointsBackSpec)

end Rows
end Go.Proofs.Ytjcchmlideknpaa
