/-
  No cell of these rows narrows 'for every input' (looked for: loops, veiled, ifaces, maps, wideKeys, modest, calm, conditions, laid).
  DERIVED. THE GIVEN ROWS OF THIS SEAT. 8 by the template 'for every input the law returns true; each argument reads behind the call as it read before'; 0 by the template 'total and deterministic' (their statements: YtpdckakccegofaaTotals.lean).
  GIVEN WITH THE SEED: the statements are not yours to turn. If you find one false, say at which input.
  Laid BY PROGRAM, IN A SANDBOX (cutbox-rows.mjs): the forced cells as the released guide's own fill.sh prints them over the translation fd2739f10a413dcf… (all of the seat's roots in one cut). By AI agents, Wed Nov 11 2026. No macro, syntax, notation, axiom, sorry.
-/
import Derived.Test.YtpdckakccegofaaChecked
import GoSem.Claim
import GoSem.ClaimJoined
import GoSem.ClaimMapViews
import Derived.JoinedTies
import Derived.KernelRfl
namespace Go.Proofs.Ytpdckakccegofaa
/- THE CELL 'sum', in the pinned program and in every row, IS THE sha256 OF THE DUMP (.gsa) THAT YtpdckakccegofaaProg.lean LOADS. Nothing in Lean hashes anything: it is a label: what it is worth is what the hold of that sum in a sandbox is worth. -/
noncomputable def Try.pinned : Pinned := { name := "ytpdckakccegofaa", sum := "fd2739f10a413dcfc00a6acebd2907c7477ef9c607f58034321cb678c590fd2b", checked := Try.checked }
namespace Rows
def none {H : Type} : Left H := { results := [], args := [] }

/-- 'collimatorlaw24.TokensCheck': WHATEVER THE INPUT: true; the input reads as it did. -/
def tokensCheckSpec : ChangeSpec := { name := "tokensCheck", fn := fun _ => fun
  | [d1, d2] => { results := [.lit (.bool true)], args := [d1, d2] }
  | _ => none }
def tokensCheckRow : OpenClaim := { program := "ytpdckakccegofaa", sum := "fd2739f10a413dcfc00a6acebd2907c7477ef9c607f58034321cb678c590fd2b", func := "collimator/collimatorlaw24.TokensCheck", spec := "tokensCheck", unfollowed := true, recurses := true, apart := false }
def TokensCheckSaid : Prop := tokensCheckRow.holds Try.pinned (OpenSpec.ofChange tokensCheckSpec)

/-- ITS FALSE NEIGHBOUR: 'it returns false'. Refute it at one input. -/
def tokensCheckWrong : ChangeSpec := { name := "tokensCheck", fn := fun _ => fun
  | [d1, d2] => { results := [.lit (.bool false)], args := [d1, d2] }
  | _ => none }
def TokensCheckWrongFalsely : Prop := tokensCheckRow.holds Try.pinned (OpenSpec.ofChange tokensCheckWrong)

/-- 'collimatorlaw24.TokensAnswers': WHATEVER THE INPUT: true; the input reads as it did. -/
def tokensAnswersSpec : ChangeSpec := { name := "tokensAnswers", fn := fun _ => fun
  | [d] => { results := [.lit (.bool true)], args := [d] }
  | _ => none }
def tokensAnswersRow : OpenClaim := { program := "ytpdckakccegofaa", sum := "fd2739f10a413dcfc00a6acebd2907c7477ef9c607f58034321cb678c590fd2b", func := "collimator/collimatorlaw24.TokensAnswers", spec := "tokensAnswers", unfollowed := true, recurses := true, apart := false }
def TokensAnswersSaid : Prop := tokensAnswersRow.holds Try.pinned (OpenSpec.ofChange tokensAnswersSpec)

/-- ITS FALSE NEIGHBOUR: 'it returns false'. Refute it at one input. -/
def tokensAnswersWrong : ChangeSpec := { name := "tokensAnswers", fn := fun _ => fun
  | [d] => { results := [.lit (.bool false)], args := [d] }
  | _ => none }
def TokensAnswersWrongFalsely : Prop := tokensAnswersRow.holds Try.pinned (OpenSpec.ofChange tokensAnswersWrong)

/-- 'collimatorlaw24.TokensParts': WHATEVER THE INPUT: true; the input reads as it did. -/
def tokensPartsSpec : ChangeSpec := { name := "tokensParts", fn := fun _ => fun
  | [d] => { results := [.lit (.bool true)], args := [d] }
  | _ => none }
def tokensPartsRow : OpenClaim := { program := "ytpdckakccegofaa", sum := "fd2739f10a413dcfc00a6acebd2907c7477ef9c607f58034321cb678c590fd2b", func := "collimator/collimatorlaw24.TokensParts", spec := "tokensParts", unfollowed := true, recurses := true, apart := false }
def TokensPartsSaid : Prop := tokensPartsRow.holds Try.pinned (OpenSpec.ofChange tokensPartsSpec)

/-- ITS FALSE NEIGHBOUR: 'it returns false'. Refute it at one input. -/
def tokensPartsWrong : ChangeSpec := { name := "tokensParts", fn := fun _ => fun
  | [d] => { results := [.lit (.bool false)], args := [d] }
  | _ => none }
def TokensPartsWrongFalsely : Prop := tokensPartsRow.holds Try.pinned (OpenSpec.ofChange tokensPartsWrong)

/-- 'collimatorlaw24.TokensCover': WHATEVER THE INPUT: true; the input reads as it did. -/
def tokensCoverSpec : ChangeSpec := { name := "tokensCover", fn := fun _ => fun
  | [d] => { results := [.lit (.bool true)], args := [d] }
  | _ => none }
def tokensCoverRow : OpenClaim := { program := "ytpdckakccegofaa", sum := "fd2739f10a413dcfc00a6acebd2907c7477ef9c607f58034321cb678c590fd2b", func := "collimator/collimatorlaw24.TokensCover", spec := "tokensCover", unfollowed := true, recurses := true, apart := false }
def TokensCoverSaid : Prop := tokensCoverRow.holds Try.pinned (OpenSpec.ofChange tokensCoverSpec)

/-- ITS FALSE NEIGHBOUR: 'it returns false'. Refute it at one input. -/
def tokensCoverWrong : ChangeSpec := { name := "tokensCover", fn := fun _ => fun
  | [d] => { results := [.lit (.bool false)], args := [d] }
  | _ => none }
def TokensCoverWrongFalsely : Prop := tokensCoverRow.holds Try.pinned (OpenSpec.ofChange tokensCoverWrong)

/-- 'collimatorlaw18.DfaRuns': WHATEVER THE INPUT: true; the input reads as it did. -/
def dfaRunsSpec : ChangeSpec := { name := "dfaRuns", fn := fun _ => fun
  | [d1, d2, d3] => { results := [.lit (.bool true)], args := [d1, d2, d3] }
  | _ => none }
def dfaRunsRow : OpenClaim := { program := "ytpdckakccegofaa", sum := "fd2739f10a413dcfc00a6acebd2907c7477ef9c607f58034321cb678c590fd2b", func := "collimator/collimatorlaw18.DfaRuns", spec := "dfaRuns", apart := false }
def DfaRunsSaid : Prop := dfaRunsRow.holds Try.pinned (OpenSpec.ofChange dfaRunsSpec)

/-- ITS FALSE NEIGHBOUR: 'it returns false'. Refute it at one input. -/
def dfaRunsWrong : ChangeSpec := { name := "dfaRuns", fn := fun _ => fun
  | [d1, d2, d3] => { results := [.lit (.bool false)], args := [d1, d2, d3] }
  | _ => none }
def DfaRunsWrongFalsely : Prop := dfaRunsRow.holds Try.pinned (OpenSpec.ofChange dfaRunsWrong)

/-- 'collimatorlaw18.DfaLives': WHATEVER THE INPUT: true; the input reads as it did. -/
def dfaLivesSpec : ChangeSpec := { name := "dfaLives", fn := fun _ => fun
  | [d1, d2] => { results := [.lit (.bool true)], args := [d1, d2] }
  | _ => none }
def dfaLivesRow : OpenClaim := { program := "ytpdckakccegofaa", sum := "fd2739f10a413dcfc00a6acebd2907c7477ef9c607f58034321cb678c590fd2b", func := "collimator/collimatorlaw18.DfaLives", spec := "dfaLives", apart := false }
def DfaLivesSaid : Prop := dfaLivesRow.holds Try.pinned (OpenSpec.ofChange dfaLivesSpec)

/-- ITS FALSE NEIGHBOUR: 'it returns false'. Refute it at one input. -/
def dfaLivesWrong : ChangeSpec := { name := "dfaLives", fn := fun _ => fun
  | [d1, d2] => { results := [.lit (.bool false)], args := [d1, d2] }
  | _ => none }
def DfaLivesWrongFalsely : Prop := dfaLivesRow.holds Try.pinned (OpenSpec.ofChange dfaLivesWrong)

/-- 'collimatorlaw18.DfaParts': WHATEVER THE INPUT: true; the input reads as it did. -/
def dfaPartsSpec : ChangeSpec := { name := "dfaParts", fn := fun _ => fun
  | [d1, d2, d3] => { results := [.lit (.bool true)], args := [d1, d2, d3] }
  | _ => none }
def dfaPartsRow : OpenClaim := { program := "ytpdckakccegofaa", sum := "fd2739f10a413dcfc00a6acebd2907c7477ef9c607f58034321cb678c590fd2b", func := "collimator/collimatorlaw18.DfaParts", spec := "dfaParts", apart := false }
def DfaPartsSaid : Prop := dfaPartsRow.holds Try.pinned (OpenSpec.ofChange dfaPartsSpec)

/-- ITS FALSE NEIGHBOUR: 'it returns false'. Refute it at one input. -/
def dfaPartsWrong : ChangeSpec := { name := "dfaParts", fn := fun _ => fun
  | [d1, d2, d3] => { results := [.lit (.bool false)], args := [d1, d2, d3] }
  | _ => none }
def DfaPartsWrongFalsely : Prop := dfaPartsRow.holds Try.pinned (OpenSpec.ofChange dfaPartsWrong)

/-- 'collimatorlaw18.DfaDead': WHATEVER THE INPUT: true; the input reads as it did. -/
def dfaDeadSpec : ChangeSpec := { name := "dfaDead", fn := fun _ => fun
  | [d1, d2, d3] => { results := [.lit (.bool true)], args := [d1, d2, d3] }
  | _ => none }
def dfaDeadRow : OpenClaim := { program := "ytpdckakccegofaa", sum := "fd2739f10a413dcfc00a6acebd2907c7477ef9c607f58034321cb678c590fd2b", func := "collimator/collimatorlaw18.DfaDead", spec := "dfaDead", apart := false }
def DfaDeadSaid : Prop := dfaDeadRow.holds Try.pinned (OpenSpec.ofChange dfaDeadSpec)

/-- ITS FALSE NEIGHBOUR: 'it returns false'. Refute it at one input. -/
def dfaDeadWrong : ChangeSpec := { name := "dfaDead", fn := fun _ => fun
  | [d1, d2, d3] => { results := [.lit (.bool false)], args := [d1, d2, d3] }
  | _ => none }
def DfaDeadWrongFalsely : Prop := dfaDeadRow.holds Try.pinned (OpenSpec.ofChange dfaDeadWrong)

/- THE SECOND FORM. 'bulk': how many values and letters a reading holds, each counted each time it is reached (what is shared counts as often as it is met; a slice's spare places count too). A statement '..UptoSaid' is the law's where the arguments, and the package variables that the reading takes, are together of bulk at most 1048576: NARROWER than '..Said'. Prove '..Said' where nothing that the law and all that it calls make is longer than what came in: it says more and counts as full. Else prove '..UptoSaid'. A law counts once. -/
mutual
def uptoBulk {H : Type} : DataW H → Nat
  | .lit (.string bytes) => bytes.length + 1
  | .lit _ => 1
  | .nil => 1
  | .ptr d => uptoBulk d + 1
  | .slice elems spare => uptoBulkAll elems + uptoBulkAll spare + 1
  | .agg parts => uptoBulkAll parts + 1
  | .iface _ d => uptoBulk d + 1
  | .map entries => uptoBulkEntries entries + 1
  | .held _ => 1
def uptoBulkAll {H : Type} : List (DataW H) → Nat
  | [] => 0
  | d :: r => uptoBulk d + uptoBulkAll r
def uptoBulkEntries {H : Type} : List (Lit × DataW H) → Nat
  | [] => 0
  | x :: r => uptoBulkEntry x + uptoBulkEntries r
def uptoBulkEntry {H : Type} : Lit × DataW H → Nat
  | (.string bytes, d) => bytes.length + uptoBulk d + 1
  | (_, d) => uptoBulk d + 1
 end
def uptoSmall : (H : Type) → List (DataW H) → Bool := fun _ ds => decide (uptoBulkAll ds ≤ 1048576)
def OpenSpec.upto (s : _root_.Go.ChangeSpec) : _root_.Go.OpenSpec := { _root_.Go.OpenSpec.ofChange s with cond := some uptoSmall }

/-- 'collimatorlaw24.TokensCheck', WHERE WHAT IT READS IS OF BULK AT MOST 1048576: true; the input reads as it did. -/
def tokensCheckUptoRow : OpenClaim := { program := "ytpdckakccegofaa", sum := "fd2739f10a413dcfc00a6acebd2907c7477ef9c607f58034321cb678c590fd2b", func := "collimator/collimatorlaw24.TokensCheck", spec := "tokensCheck", unfollowed := true, recurses := true, apart := false, narrowed := true }
def TokensCheckUptoSaid : Prop := tokensCheckUptoRow.holds Try.pinned (OpenSpec.upto tokensCheckSpec)

/-- 'collimatorlaw24.TokensAnswers', WHERE WHAT IT READS IS OF BULK AT MOST 1048576: true; the input reads as it did. -/
def tokensAnswersUptoRow : OpenClaim := { program := "ytpdckakccegofaa", sum := "fd2739f10a413dcfc00a6acebd2907c7477ef9c607f58034321cb678c590fd2b", func := "collimator/collimatorlaw24.TokensAnswers", spec := "tokensAnswers", unfollowed := true, recurses := true, apart := false, narrowed := true }
def TokensAnswersUptoSaid : Prop := tokensAnswersUptoRow.holds Try.pinned (OpenSpec.upto tokensAnswersSpec)

/-- 'collimatorlaw24.TokensParts', WHERE WHAT IT READS IS OF BULK AT MOST 1048576: true; the input reads as it did. -/
def tokensPartsUptoRow : OpenClaim := { program := "ytpdckakccegofaa", sum := "fd2739f10a413dcfc00a6acebd2907c7477ef9c607f58034321cb678c590fd2b", func := "collimator/collimatorlaw24.TokensParts", spec := "tokensParts", unfollowed := true, recurses := true, apart := false, narrowed := true }
def TokensPartsUptoSaid : Prop := tokensPartsUptoRow.holds Try.pinned (OpenSpec.upto tokensPartsSpec)

/-- 'collimatorlaw24.TokensCover', WHERE WHAT IT READS IS OF BULK AT MOST 1048576: true; the input reads as it did. -/
def tokensCoverUptoRow : OpenClaim := { program := "ytpdckakccegofaa", sum := "fd2739f10a413dcfc00a6acebd2907c7477ef9c607f58034321cb678c590fd2b", func := "collimator/collimatorlaw24.TokensCover", spec := "tokensCover", unfollowed := true, recurses := true, apart := false, narrowed := true }
def TokensCoverUptoSaid : Prop := tokensCoverUptoRow.holds Try.pinned (OpenSpec.upto tokensCoverSpec)

/-- 'collimatorlaw18.DfaRuns', WHERE WHAT IT READS IS OF BULK AT MOST 1048576: true; the input reads as it did. -/
def dfaRunsUptoRow : OpenClaim := { program := "ytpdckakccegofaa", sum := "fd2739f10a413dcfc00a6acebd2907c7477ef9c607f58034321cb678c590fd2b", func := "collimator/collimatorlaw18.DfaRuns", spec := "dfaRuns", apart := false, narrowed := true }
def DfaRunsUptoSaid : Prop := dfaRunsUptoRow.holds Try.pinned (OpenSpec.upto dfaRunsSpec)

/-- 'collimatorlaw18.DfaLives', WHERE WHAT IT READS IS OF BULK AT MOST 1048576: true; the input reads as it did. -/
def dfaLivesUptoRow : OpenClaim := { program := "ytpdckakccegofaa", sum := "fd2739f10a413dcfc00a6acebd2907c7477ef9c607f58034321cb678c590fd2b", func := "collimator/collimatorlaw18.DfaLives", spec := "dfaLives", apart := false, narrowed := true }
def DfaLivesUptoSaid : Prop := dfaLivesUptoRow.holds Try.pinned (OpenSpec.upto dfaLivesSpec)

/-- 'collimatorlaw18.DfaParts', WHERE WHAT IT READS IS OF BULK AT MOST 1048576: true; the input reads as it did. -/
def dfaPartsUptoRow : OpenClaim := { program := "ytpdckakccegofaa", sum := "fd2739f10a413dcfc00a6acebd2907c7477ef9c607f58034321cb678c590fd2b", func := "collimator/collimatorlaw18.DfaParts", spec := "dfaParts", apart := false, narrowed := true }
def DfaPartsUptoSaid : Prop := dfaPartsUptoRow.holds Try.pinned (OpenSpec.upto dfaPartsSpec)

/-- 'collimatorlaw18.DfaDead', WHERE WHAT IT READS IS OF BULK AT MOST 1048576: true; the input reads as it did. -/
def dfaDeadUptoRow : OpenClaim := { program := "ytpdckakccegofaa", sum := "fd2739f10a413dcfc00a6acebd2907c7477ef9c607f58034321cb678c590fd2b", func := "collimator/collimatorlaw18.DfaDead", spec := "dfaDead", apart := false, narrowed := true }
def DfaDeadUptoSaid : Prop := dfaDeadUptoRow.holds Try.pinned (OpenSpec.upto dfaDeadSpec)

end Rows
end Go.Proofs.Ytpdckakccegofaa
