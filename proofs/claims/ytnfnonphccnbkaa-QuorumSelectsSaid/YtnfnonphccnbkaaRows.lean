/-
  No cell of these rows narrows 'for every input' (looked for: loops, veiled, ifaces, maps, wideKeys, modest, calm, conditions, laid).
  DERIVED. THE GIVEN ROWS OF THIS SEAT. 17 by the template 'for every input the law returns true; each argument reads behind the call as it read before'; 0 by the template 'total and deterministic' (their statements: YtnfnonphccnbkaaTotals.lean).
  GIVEN WITH THE SEED: the statements are not yours to turn. If you find one false, say at which input.
  Laid BY PROGRAM, IN A SANDBOX (cutbox-rows.mjs): the forced cells as the released guide's own fill.sh prints them over the translation 9201724eef437a49… (all of the seat's roots in one cut). By AI agents, Wed Nov 11 2026. No macro, syntax, notation, axiom, sorry.
-/
import Derived.Test.YtnfnonphccnbkaaChecked
import GoSem.Claim
import GoSem.ClaimJoined
import GoSem.ClaimMapViews
import Derived.JoinedTies
import Derived.KernelRfl
namespace Go.Proofs.Ytnfnonphccnbkaa
/- THE CELL 'sum', in the pinned program and in every row, IS THE sha256 OF THE DUMP (.gsa) THAT YtnfnonphccnbkaaProg.lean LOADS. Nothing in Lean hashes anything: it is a label: what it is worth is what the hold of that sum in a sandbox is worth. -/
noncomputable def Try.pinned : Pinned := { name := "ytnfnonphccnbkaa", sum := "9201724eef437a49b63085e9d0f4a04c4ccc5eb0a05c2c256a85c6ee6156cae1", checked := Try.checked }
namespace Rows
def none {H : Type} : Left H := { results := [], args := [] }

/-- 'chronobatelaw10.FreshBests': WHATEVER THE INPUT: true; the input reads as it did. -/
def freshBestsSpec : ChangeSpec := { name := "freshBests", fn := fun _ => fun
  | [d1, d2] => { results := [.lit (.bool true)], args := [d1, d2] }
  | _ => none }
def freshBestsRow : OpenClaim := { program := "ytnfnonphccnbkaa", sum := "9201724eef437a49b63085e9d0f4a04c4ccc5eb0a05c2c256a85c6ee6156cae1", func := "chronobate/chronobatelaw10.FreshBests", spec := "freshBests", unfollowed := true, recurses := true, apart := false }
def FreshBestsSaid : Prop := freshBestsRow.holds Try.pinned (OpenSpec.ofChange freshBestsSpec)

/-- ITS FALSE NEIGHBOUR: 'it returns false'. Refute it at one input. -/
def freshBestsWrong : ChangeSpec := { name := "freshBests", fn := fun _ => fun
  | [d1, d2] => { results := [.lit (.bool false)], args := [d1, d2] }
  | _ => none }
def FreshBestsWrongFalsely : Prop := freshBestsRow.holds Try.pinned (OpenSpec.ofChange freshBestsWrong)

/-- 'chronobatelaw10.FreshLeast': WHATEVER THE INPUT: true; the input reads as it did. -/
def freshLeastSpec : ChangeSpec := { name := "freshLeast", fn := fun _ => fun
  | [d1, d2] => { results := [.lit (.bool true)], args := [d1, d2] }
  | _ => none }
def freshLeastRow : OpenClaim := { program := "ytnfnonphccnbkaa", sum := "9201724eef437a49b63085e9d0f4a04c4ccc5eb0a05c2c256a85c6ee6156cae1", func := "chronobate/chronobatelaw10.FreshLeast", spec := "freshLeast", unfollowed := true, recurses := true, apart := false }
def FreshLeastSaid : Prop := freshLeastRow.holds Try.pinned (OpenSpec.ofChange freshLeastSpec)

/-- ITS FALSE NEIGHBOUR: 'it returns false'. Refute it at one input. -/
def freshLeastWrong : ChangeSpec := { name := "freshLeast", fn := fun _ => fun
  | [d1, d2] => { results := [.lit (.bool false)], args := [d1, d2] }
  | _ => none }
def FreshLeastWrongFalsely : Prop := freshLeastRow.holds Try.pinned (OpenSpec.ofChange freshLeastWrong)

/-- 'chronobatelaw10.FreshMoves': WHATEVER THE INPUT: true; the input reads as it did. -/
def freshMovesSpec : ChangeSpec := { name := "freshMoves", fn := fun _ => fun
  | [d1, d2, d3] => { results := [.lit (.bool true)], args := [d1, d2, d3] }
  | _ => none }
def freshMovesRow : OpenClaim := { program := "ytnfnonphccnbkaa", sum := "9201724eef437a49b63085e9d0f4a04c4ccc5eb0a05c2c256a85c6ee6156cae1", func := "chronobate/chronobatelaw10.FreshMoves", spec := "freshMoves", unfollowed := true, recurses := true, apart := false }
def FreshMovesSaid : Prop := freshMovesRow.holds Try.pinned (OpenSpec.ofChange freshMovesSpec)

/-- ITS FALSE NEIGHBOUR: 'it returns false'. Refute it at one input. -/
def freshMovesWrong : ChangeSpec := { name := "freshMoves", fn := fun _ => fun
  | [d1, d2, d3] => { results := [.lit (.bool false)], args := [d1, d2, d3] }
  | _ => none }
def FreshMovesWrongFalsely : Prop := freshMovesRow.holds Try.pinned (OpenSpec.ofChange freshMovesWrong)

/-- 'chronobatelaw10.FreshLast': WHATEVER THE INPUT: true; the input reads as it did. -/
def freshLastSpec : ChangeSpec := { name := "freshLast", fn := fun _ => fun
  | [d1, d2, d3] => { results := [.lit (.bool true)], args := [d1, d2, d3] }
  | _ => none }
def freshLastRow : OpenClaim := { program := "ytnfnonphccnbkaa", sum := "9201724eef437a49b63085e9d0f4a04c4ccc5eb0a05c2c256a85c6ee6156cae1", func := "chronobate/chronobatelaw10.FreshLast", spec := "freshLast", unfollowed := true, recurses := true, apart := false }
def FreshLastSaid : Prop := freshLastRow.holds Try.pinned (OpenSpec.ofChange freshLastSpec)

/-- ITS FALSE NEIGHBOUR: 'it returns false'. Refute it at one input. -/
def freshLastWrong : ChangeSpec := { name := "freshLast", fn := fun _ => fun
  | [d1, d2, d3] => { results := [.lit (.bool false)], args := [d1, d2, d3] }
  | _ => none }
def FreshLastWrongFalsely : Prop := freshLastRow.holds Try.pinned (OpenSpec.ofChange freshLastWrong)

/-- 'chronobatelaw10.FreshNone': WHATEVER THE INPUT: true; the input reads as it did. -/
def freshNoneSpec : ChangeSpec := { name := "freshNone", fn := fun _ => fun
  | [d1, d2] => { results := [.lit (.bool true)], args := [d1, d2] }
  | _ => none }
def freshNoneRow : OpenClaim := { program := "ytnfnonphccnbkaa", sum := "9201724eef437a49b63085e9d0f4a04c4ccc5eb0a05c2c256a85c6ee6156cae1", func := "chronobate/chronobatelaw10.FreshNone", spec := "freshNone", unfollowed := true, recurses := true, apart := false }
def FreshNoneSaid : Prop := freshNoneRow.holds Try.pinned (OpenSpec.ofChange freshNoneSpec)

/-- ITS FALSE NEIGHBOUR: 'it returns false'. Refute it at one input. -/
def freshNoneWrong : ChangeSpec := { name := "freshNone", fn := fun _ => fun
  | [d1, d2] => { results := [.lit (.bool false)], args := [d1, d2] }
  | _ => none }
def FreshNoneWrongFalsely : Prop := freshNoneRow.holds Try.pinned (OpenSpec.ofChange freshNoneWrong)

/-- 'chronobatelaw10.FreshKeeps': WHATEVER THE INPUT: true; the input reads as it did. -/
def freshKeepsSpec : ChangeSpec := { name := "freshKeeps", fn := fun _ => fun
  | [d1, d2] => { results := [.lit (.bool true)], args := [d1, d2] }
  | _ => none }
def freshKeepsRow : OpenClaim := { program := "ytnfnonphccnbkaa", sum := "9201724eef437a49b63085e9d0f4a04c4ccc5eb0a05c2c256a85c6ee6156cae1", func := "chronobate/chronobatelaw10.FreshKeeps", spec := "freshKeeps", unfollowed := true, recurses := true, apart := false }
def FreshKeepsSaid : Prop := freshKeepsRow.holds Try.pinned (OpenSpec.ofChange freshKeepsSpec)

/-- ITS FALSE NEIGHBOUR: 'it returns false'. Refute it at one input. -/
def freshKeepsWrong : ChangeSpec := { name := "freshKeeps", fn := fun _ => fun
  | [d1, d2] => { results := [.lit (.bool false)], args := [d1, d2] }
  | _ => none }
def FreshKeepsWrongFalsely : Prop := freshKeepsRow.holds Try.pinned (OpenSpec.ofChange freshKeepsWrong)

/-- 'chronobatelaw11.MedianMoves': WHATEVER THE INPUT: true; the input reads as it did. -/
def medianMovesSpec : ChangeSpec := { name := "medianMoves", fn := fun _ => fun
  | [d1, d2, d3] => { results := [.lit (.bool true)], args := [d1, d2, d3] }
  | _ => none }
def medianMovesRow : OpenClaim := { program := "ytnfnonphccnbkaa", sum := "9201724eef437a49b63085e9d0f4a04c4ccc5eb0a05c2c256a85c6ee6156cae1", func := "chronobate/chronobatelaw11.MedianMoves", spec := "medianMoves", recurses := true, apart := false }
def MedianMovesSaid : Prop := medianMovesRow.holds Try.pinned (OpenSpec.ofChange medianMovesSpec)

/-- ITS FALSE NEIGHBOUR: 'it returns false'. Refute it at one input. -/
def medianMovesWrong : ChangeSpec := { name := "medianMoves", fn := fun _ => fun
  | [d1, d2, d3] => { results := [.lit (.bool false)], args := [d1, d2, d3] }
  | _ => none }
def MedianMovesWrongFalsely : Prop := medianMovesRow.holds Try.pinned (OpenSpec.ofChange medianMovesWrong)

/-- 'chronobatelaw11.MedianMore': WHATEVER THE INPUT: true; the input reads as it did. -/
def medianMoreSpec : ChangeSpec := { name := "medianMore", fn := fun _ => fun
  | [d] => { results := [.lit (.bool true)], args := [d] }
  | _ => none }
def medianMoreRow : OpenClaim := { program := "ytnfnonphccnbkaa", sum := "9201724eef437a49b63085e9d0f4a04c4ccc5eb0a05c2c256a85c6ee6156cae1", func := "chronobate/chronobatelaw11.MedianMore", spec := "medianMore", recurses := true, apart := false }
def MedianMoreSaid : Prop := medianMoreRow.holds Try.pinned (OpenSpec.ofChange medianMoreSpec)

/-- ITS FALSE NEIGHBOUR: 'it returns false'. Refute it at one input. -/
def medianMoreWrong : ChangeSpec := { name := "medianMore", fn := fun _ => fun
  | [d] => { results := [.lit (.bool false)], args := [d] }
  | _ => none }
def MedianMoreWrongFalsely : Prop := medianMoreRow.holds Try.pinned (OpenSpec.ofChange medianMoreWrong)

/-- 'chronobatelaw12.QuorumChooses': WHATEVER THE INPUT: true; the input reads as it did. -/
def quorumChoosesSpec : ChangeSpec := { name := "quorumChooses", fn := fun _ => fun
  | [d1, d2] => { results := [.lit (.bool true)], args := [d1, d2] }
  | _ => none }
def quorumChoosesRow : OpenClaim := { program := "ytnfnonphccnbkaa", sum := "9201724eef437a49b63085e9d0f4a04c4ccc5eb0a05c2c256a85c6ee6156cae1", func := "chronobate/chronobatelaw12.QuorumChooses", spec := "quorumChooses", recurses := true, apart := false }
def QuorumChoosesSaid : Prop := quorumChoosesRow.holds Try.pinned (OpenSpec.ofChange quorumChoosesSpec)

/-- ITS FALSE NEIGHBOUR: 'it returns false'. Refute it at one input. -/
def quorumChoosesWrong : ChangeSpec := { name := "quorumChooses", fn := fun _ => fun
  | [d1, d2] => { results := [.lit (.bool false)], args := [d1, d2] }
  | _ => none }
def QuorumChoosesWrongFalsely : Prop := quorumChoosesRow.holds Try.pinned (OpenSpec.ofChange quorumChoosesWrong)

/-- 'chronobatelaw12.QuorumLies': WHATEVER THE INPUT: true; the input reads as it did. -/
def quorumLiesSpec : ChangeSpec := { name := "quorumLies", fn := fun _ => fun
  | [d1, d2, d3] => { results := [.lit (.bool true)], args := [d1, d2, d3] }
  | _ => none }
def quorumLiesRow : OpenClaim := { program := "ytnfnonphccnbkaa", sum := "9201724eef437a49b63085e9d0f4a04c4ccc5eb0a05c2c256a85c6ee6156cae1", func := "chronobate/chronobatelaw12.QuorumLies", spec := "quorumLies", recurses := true, apart := false }
def QuorumLiesSaid : Prop := quorumLiesRow.holds Try.pinned (OpenSpec.ofChange quorumLiesSpec)

/-- ITS FALSE NEIGHBOUR: 'it returns false'. Refute it at one input. -/
def quorumLiesWrong : ChangeSpec := { name := "quorumLies", fn := fun _ => fun
  | [d1, d2, d3] => { results := [.lit (.bool false)], args := [d1, d2, d3] }
  | _ => none }
def QuorumLiesWrongFalsely : Prop := quorumLiesRow.holds Try.pinned (OpenSpec.ofChange quorumLiesWrong)

/-- 'chronobatelaw12.QuorumEnough': WHATEVER THE INPUT: true; the input reads as it did. -/
def quorumEnoughSpec : ChangeSpec := { name := "quorumEnough", fn := fun _ => fun
  | [d1, d2, d3] => { results := [.lit (.bool true)], args := [d1, d2, d3] }
  | _ => none }
def quorumEnoughRow : OpenClaim := { program := "ytnfnonphccnbkaa", sum := "9201724eef437a49b63085e9d0f4a04c4ccc5eb0a05c2c256a85c6ee6156cae1", func := "chronobate/chronobatelaw12.QuorumEnough", spec := "quorumEnough", recurses := true, apart := false }
def QuorumEnoughSaid : Prop := quorumEnoughRow.holds Try.pinned (OpenSpec.ofChange quorumEnoughSpec)

/-- ITS FALSE NEIGHBOUR: 'it returns false'. Refute it at one input. -/
def quorumEnoughWrong : ChangeSpec := { name := "quorumEnough", fn := fun _ => fun
  | [d1, d2, d3] => { results := [.lit (.bool false)], args := [d1, d2, d3] }
  | _ => none }
def QuorumEnoughWrongFalsely : Prop := quorumEnoughRow.holds Try.pinned (OpenSpec.ofChange quorumEnoughWrong)

/-- 'chronobatelaw12.QuorumOne': WHATEVER THE INPUT: true; the input reads as it did. -/
def quorumOneSpec : ChangeSpec := { name := "quorumOne", fn := fun _ => fun
  | [d1, d2, d3] => { results := [.lit (.bool true)], args := [d1, d2, d3] }
  | _ => none }
def quorumOneRow : OpenClaim := { program := "ytnfnonphccnbkaa", sum := "9201724eef437a49b63085e9d0f4a04c4ccc5eb0a05c2c256a85c6ee6156cae1", func := "chronobate/chronobatelaw12.QuorumOne", spec := "quorumOne", recurses := true, apart := false }
def QuorumOneSaid : Prop := quorumOneRow.holds Try.pinned (OpenSpec.ofChange quorumOneSpec)

/-- ITS FALSE NEIGHBOUR: 'it returns false'. Refute it at one input. -/
def quorumOneWrong : ChangeSpec := { name := "quorumOne", fn := fun _ => fun
  | [d1, d2, d3] => { results := [.lit (.bool false)], args := [d1, d2, d3] }
  | _ => none }
def QuorumOneWrongFalsely : Prop := quorumOneRow.holds Try.pinned (OpenSpec.ofChange quorumOneWrong)

/-- 'chronobatelaw11.MedianLies': WHATEVER THE INPUT: true; the input reads as it did. -/
def medianLiesSpec : ChangeSpec := { name := "medianLies", fn := fun _ => fun
  | [d1, d2] => { results := [.lit (.bool true)], args := [d1, d2] }
  | _ => none }
def medianLiesRow : OpenClaim := { program := "ytnfnonphccnbkaa", sum := "9201724eef437a49b63085e9d0f4a04c4ccc5eb0a05c2c256a85c6ee6156cae1", func := "chronobate/chronobatelaw11.MedianLies", spec := "medianLies", recurses := true, apart := false }
def MedianLiesSaid : Prop := medianLiesRow.holds Try.pinned (OpenSpec.ofChange medianLiesSpec)

/-- ITS FALSE NEIGHBOUR: 'it returns false'. Refute it at one input. -/
def medianLiesWrong : ChangeSpec := { name := "medianLies", fn := fun _ => fun
  | [d1, d2] => { results := [.lit (.bool false)], args := [d1, d2] }
  | _ => none }
def MedianLiesWrongFalsely : Prop := medianLiesRow.holds Try.pinned (OpenSpec.ofChange medianLiesWrong)

/-- 'chronobatelaw11.MedianTexts': WHATEVER THE INPUT: true; the input reads as it did. -/
def medianTextsSpec : ChangeSpec := { name := "medianTexts", fn := fun _ => fun
  | [d] => { results := [.lit (.bool true)], args := [d] }
  | _ => none }
def medianTextsRow : OpenClaim := { program := "ytnfnonphccnbkaa", sum := "9201724eef437a49b63085e9d0f4a04c4ccc5eb0a05c2c256a85c6ee6156cae1", func := "chronobate/chronobatelaw11.MedianTexts", spec := "medianTexts", recurses := true, apart := false }
def MedianTextsSaid : Prop := medianTextsRow.holds Try.pinned (OpenSpec.ofChange medianTextsSpec)

/-- ITS FALSE NEIGHBOUR: 'it returns false'. Refute it at one input. -/
def medianTextsWrong : ChangeSpec := { name := "medianTexts", fn := fun _ => fun
  | [d] => { results := [.lit (.bool false)], args := [d] }
  | _ => none }
def MedianTextsWrongFalsely : Prop := medianTextsRow.holds Try.pinned (OpenSpec.ofChange medianTextsWrong)

/-- 'chronobatelaw11.MedianTells': WHATEVER THE INPUT: true; the input reads as it did. -/
def medianTellsSpec : ChangeSpec := { name := "medianTells", fn := fun _ => fun
  | [d1, d2] => { results := [.lit (.bool true)], args := [d1, d2] }
  | _ => none }
def medianTellsRow : OpenClaim := { program := "ytnfnonphccnbkaa", sum := "9201724eef437a49b63085e9d0f4a04c4ccc5eb0a05c2c256a85c6ee6156cae1", func := "chronobate/chronobatelaw11.MedianTells", spec := "medianTells", recurses := true, apart := false }
def MedianTellsSaid : Prop := medianTellsRow.holds Try.pinned (OpenSpec.ofChange medianTellsSpec)

/-- ITS FALSE NEIGHBOUR: 'it returns false'. Refute it at one input. -/
def medianTellsWrong : ChangeSpec := { name := "medianTells", fn := fun _ => fun
  | [d1, d2] => { results := [.lit (.bool false)], args := [d1, d2] }
  | _ => none }
def MedianTellsWrongFalsely : Prop := medianTellsRow.holds Try.pinned (OpenSpec.ofChange medianTellsWrong)

/-- 'chronobatelaw12.QuorumSelects': WHATEVER THE INPUT: true; the input reads as it did. -/
def quorumSelectsSpec : ChangeSpec := { name := "quorumSelects", fn := fun _ => fun
  | [d1, d2, d3] => { results := [.lit (.bool true)], args := [d1, d2, d3] }
  | _ => none }
def quorumSelectsRow : OpenClaim := { program := "ytnfnonphccnbkaa", sum := "9201724eef437a49b63085e9d0f4a04c4ccc5eb0a05c2c256a85c6ee6156cae1", func := "chronobate/chronobatelaw12.QuorumSelects", spec := "quorumSelects", unfollowed := true, recurses := true, apart := false }
def QuorumSelectsSaid : Prop := quorumSelectsRow.holds Try.pinned (OpenSpec.ofChange quorumSelectsSpec)

/-- ITS FALSE NEIGHBOUR: 'it returns false'. Refute it at one input. -/
def quorumSelectsWrong : ChangeSpec := { name := "quorumSelects", fn := fun _ => fun
  | [d1, d2, d3] => { results := [.lit (.bool false)], args := [d1, d2, d3] }
  | _ => none }
def QuorumSelectsWrongFalsely : Prop := quorumSelectsRow.holds Try.pinned (OpenSpec.ofChange quorumSelectsWrong)

/-- 'chronobatelaw12.QuorumMoves': WHATEVER THE INPUT: true; the input reads as it did. -/
def quorumMovesSpec : ChangeSpec := { name := "quorumMoves", fn := fun _ => fun
  | [d1, d2, d3] => { results := [.lit (.bool true)], args := [d1, d2, d3] }
  | _ => none }
def quorumMovesRow : OpenClaim := { program := "ytnfnonphccnbkaa", sum := "9201724eef437a49b63085e9d0f4a04c4ccc5eb0a05c2c256a85c6ee6156cae1", func := "chronobate/chronobatelaw12.QuorumMoves", spec := "quorumMoves", unfollowed := true, recurses := true, apart := false }
def QuorumMovesSaid : Prop := quorumMovesRow.holds Try.pinned (OpenSpec.ofChange quorumMovesSpec)

/-- ITS FALSE NEIGHBOUR: 'it returns false'. Refute it at one input. -/
def quorumMovesWrong : ChangeSpec := { name := "quorumMoves", fn := fun _ => fun
  | [d1, d2, d3] => { results := [.lit (.bool false)], args := [d1, d2, d3] }
  | _ => none }
def QuorumMovesWrongFalsely : Prop := quorumMovesRow.holds Try.pinned (OpenSpec.ofChange quorumMovesWrong)

/- THE SECOND FORM. 'bulk': how many values and letters a reading holds, each counted each time it is reached (what is shared counts as often as it is met; a slice's spare places count too). A statement '..UptoSaid' is the law's where the arguments, and the package variables that the reading takes, are together of bulk at most 1048576: NARROWER than '..Said'. Prove '..Said' where nothing that the law and all that it calls make is longer than what came in: it says more and counts as full. Else prove '..UptoSaid'. A law counts once. -/
mutual
def uptoBulk {H : Type} : DataW H → Nat
  | .lit (.string bytes) => bytes.length + 1
  | .lit _ => 1
  | .nil => 1
  | .ptr d => uptoBulk d + 1
  | .slice elems spare => uptoBulkAll elems + uptoBulkAll spare + 1
  | .agg parts => uptoBulkAll parts + 1
  | .iface _ d => uptoBulk d + 1
  | .map entries => uptoBulkEntries entries + 1
  | .held _ => 1
def uptoBulkAll {H : Type} : List (DataW H) → Nat
  | [] => 0
  | d :: r => uptoBulk d + uptoBulkAll r
def uptoBulkEntries {H : Type} : List (Lit × DataW H) → Nat
  | [] => 0
  | x :: r => uptoBulkEntry x + uptoBulkEntries r
def uptoBulkEntry {H : Type} : Lit × DataW H → Nat
  | (.string bytes, d) => bytes.length + uptoBulk d + 1
  | (_, d) => uptoBulk d + 1
 end
def uptoSmall : (H : Type) → List (DataW H) → Bool := fun _ ds => decide (uptoBulkAll ds ≤ 1048576)
def OpenSpec.upto (s : _root_.Go.ChangeSpec) : _root_.Go.OpenSpec := { _root_.Go.OpenSpec.ofChange s with cond := some uptoSmall }

/-- 'chronobatelaw10.FreshBests', WHERE WHAT IT READS IS OF BULK AT MOST 1048576: true; the input reads as it did. -/
def freshBestsUptoRow : OpenClaim := { program := "ytnfnonphccnbkaa", sum := "9201724eef437a49b63085e9d0f4a04c4ccc5eb0a05c2c256a85c6ee6156cae1", func := "chronobate/chronobatelaw10.FreshBests", spec := "freshBests", unfollowed := true, recurses := true, apart := false, narrowed := true }
def FreshBestsUptoSaid : Prop := freshBestsUptoRow.holds Try.pinned (OpenSpec.upto freshBestsSpec)

/-- 'chronobatelaw10.FreshLeast', WHERE WHAT IT READS IS OF BULK AT MOST 1048576: true; the input reads as it did. -/
def freshLeastUptoRow : OpenClaim := { program := "ytnfnonphccnbkaa", sum := "9201724eef437a49b63085e9d0f4a04c4ccc5eb0a05c2c256a85c6ee6156cae1", func := "chronobate/chronobatelaw10.FreshLeast", spec := "freshLeast", unfollowed := true, recurses := true, apart := false, narrowed := true }
def FreshLeastUptoSaid : Prop := freshLeastUptoRow.holds Try.pinned (OpenSpec.upto freshLeastSpec)

/-- 'chronobatelaw10.FreshMoves', WHERE WHAT IT READS IS OF BULK AT MOST 1048576: true; the input reads as it did. -/
def freshMovesUptoRow : OpenClaim := { program := "ytnfnonphccnbkaa", sum := "9201724eef437a49b63085e9d0f4a04c4ccc5eb0a05c2c256a85c6ee6156cae1", func := "chronobate/chronobatelaw10.FreshMoves", spec := "freshMoves", unfollowed := true, recurses := true, apart := false, narrowed := true }
def FreshMovesUptoSaid : Prop := freshMovesUptoRow.holds Try.pinned (OpenSpec.upto freshMovesSpec)

/-- 'chronobatelaw10.FreshLast', WHERE WHAT IT READS IS OF BULK AT MOST 1048576: true; the input reads as it did. -/
def freshLastUptoRow : OpenClaim := { program := "ytnfnonphccnbkaa", sum := "9201724eef437a49b63085e9d0f4a04c4ccc5eb0a05c2c256a85c6ee6156cae1", func := "chronobate/chronobatelaw10.FreshLast", spec := "freshLast", unfollowed := true, recurses := true, apart := false, narrowed := true }
def FreshLastUptoSaid : Prop := freshLastUptoRow.holds Try.pinned (OpenSpec.upto freshLastSpec)

/-- 'chronobatelaw10.FreshNone', WHERE WHAT IT READS IS OF BULK AT MOST 1048576: true; the input reads as it did. -/
def freshNoneUptoRow : OpenClaim := { program := "ytnfnonphccnbkaa", sum := "9201724eef437a49b63085e9d0f4a04c4ccc5eb0a05c2c256a85c6ee6156cae1", func := "chronobate/chronobatelaw10.FreshNone", spec := "freshNone", unfollowed := true, recurses := true, apart := false, narrowed := true }
def FreshNoneUptoSaid : Prop := freshNoneUptoRow.holds Try.pinned (OpenSpec.upto freshNoneSpec)

/-- 'chronobatelaw10.FreshKeeps', WHERE WHAT IT READS IS OF BULK AT MOST 1048576: true; the input reads as it did. -/
def freshKeepsUptoRow : OpenClaim := { program := "ytnfnonphccnbkaa", sum := "9201724eef437a49b63085e9d0f4a04c4ccc5eb0a05c2c256a85c6ee6156cae1", func := "chronobate/chronobatelaw10.FreshKeeps", spec := "freshKeeps", unfollowed := true, recurses := true, apart := false, narrowed := true }
def FreshKeepsUptoSaid : Prop := freshKeepsUptoRow.holds Try.pinned (OpenSpec.upto freshKeepsSpec)

/-- 'chronobatelaw11.MedianMoves', WHERE WHAT IT READS IS OF BULK AT MOST 1048576: true; the input reads as it did. -/
def medianMovesUptoRow : OpenClaim := { program := "ytnfnonphccnbkaa", sum := "9201724eef437a49b63085e9d0f4a04c4ccc5eb0a05c2c256a85c6ee6156cae1", func := "chronobate/chronobatelaw11.MedianMoves", spec := "medianMoves", recurses := true, apart := false, narrowed := true }
def MedianMovesUptoSaid : Prop := medianMovesUptoRow.holds Try.pinned (OpenSpec.upto medianMovesSpec)

/-- 'chronobatelaw11.MedianMore', WHERE WHAT IT READS IS OF BULK AT MOST 1048576: true; the input reads as it did. -/
def medianMoreUptoRow : OpenClaim := { program := "ytnfnonphccnbkaa", sum := "9201724eef437a49b63085e9d0f4a04c4ccc5eb0a05c2c256a85c6ee6156cae1", func := "chronobate/chronobatelaw11.MedianMore", spec := "medianMore", recurses := true, apart := false, narrowed := true }
def MedianMoreUptoSaid : Prop := medianMoreUptoRow.holds Try.pinned (OpenSpec.upto medianMoreSpec)

/-- 'chronobatelaw12.QuorumChooses', WHERE WHAT IT READS IS OF BULK AT MOST 1048576: true; the input reads as it did. -/
def quorumChoosesUptoRow : OpenClaim := { program := "ytnfnonphccnbkaa", sum := "9201724eef437a49b63085e9d0f4a04c4ccc5eb0a05c2c256a85c6ee6156cae1", func := "chronobate/chronobatelaw12.QuorumChooses", spec := "quorumChooses", recurses := true, apart := false, narrowed := true }
def QuorumChoosesUptoSaid : Prop := quorumChoosesUptoRow.holds Try.pinned (OpenSpec.upto quorumChoosesSpec)

/-- 'chronobatelaw12.QuorumLies', WHERE WHAT IT READS IS OF BULK AT MOST 1048576: true; the input reads as it did. -/
def quorumLiesUptoRow : OpenClaim := { program := "ytnfnonphccnbkaa", sum := "9201724eef437a49b63085e9d0f4a04c4ccc5eb0a05c2c256a85c6ee6156cae1", func := "chronobate/chronobatelaw12.QuorumLies", spec := "quorumLies", recurses := true, apart := false, narrowed := true }
def QuorumLiesUptoSaid : Prop := quorumLiesUptoRow.holds Try.pinned (OpenSpec.upto quorumLiesSpec)

/-- 'chronobatelaw12.QuorumEnough', WHERE WHAT IT READS IS OF BULK AT MOST 1048576: true; the input reads as it did. -/
def quorumEnoughUptoRow : OpenClaim := { program := "ytnfnonphccnbkaa", sum := "9201724eef437a49b63085e9d0f4a04c4ccc5eb0a05c2c256a85c6ee6156cae1", func := "chronobate/chronobatelaw12.QuorumEnough", spec := "quorumEnough", recurses := true, apart := false, narrowed := true }
def QuorumEnoughUptoSaid : Prop := quorumEnoughUptoRow.holds Try.pinned (OpenSpec.upto quorumEnoughSpec)

/-- 'chronobatelaw12.QuorumOne', WHERE WHAT IT READS IS OF BULK AT MOST 1048576: true; the input reads as it did. -/
def quorumOneUptoRow : OpenClaim := { program := "ytnfnonphccnbkaa", sum := "9201724eef437a49b63085e9d0f4a04c4ccc5eb0a05c2c256a85c6ee6156cae1", func := "chronobate/chronobatelaw12.QuorumOne", spec := "quorumOne", recurses := true, apart := false, narrowed := true }
def QuorumOneUptoSaid : Prop := quorumOneUptoRow.holds Try.pinned (OpenSpec.upto quorumOneSpec)

/-- 'chronobatelaw11.MedianLies', WHERE WHAT IT READS IS OF BULK AT MOST 1048576: true; the input reads as it did. -/
def medianLiesUptoRow : OpenClaim := { program := "ytnfnonphccnbkaa", sum := "9201724eef437a49b63085e9d0f4a04c4ccc5eb0a05c2c256a85c6ee6156cae1", func := "chronobate/chronobatelaw11.MedianLies", spec := "medianLies", recurses := true, apart := false, narrowed := true }
def MedianLiesUptoSaid : Prop := medianLiesUptoRow.holds Try.pinned (OpenSpec.upto medianLiesSpec)

/-- 'chronobatelaw11.MedianTexts', WHERE WHAT IT READS IS OF BULK AT MOST 1048576: true; the input reads as it did. -/
def medianTextsUptoRow : OpenClaim := { program := "ytnfnonphccnbkaa", sum := "9201724eef437a49b63085e9d0f4a04c4ccc5eb0a05c2c256a85c6ee6156cae1", func := "chronobate/chronobatelaw11.MedianTexts", spec := "medianTexts", recurses := true, apart := false, narrowed := true }
def MedianTextsUptoSaid : Prop := medianTextsUptoRow.holds Try.pinned (OpenSpec.upto medianTextsSpec)

/-- 'chronobatelaw11.MedianTells', WHERE WHAT IT READS IS OF BULK AT MOST 1048576: true; the input reads as it did. -/
def medianTellsUptoRow : OpenClaim := { program := "ytnfnonphccnbkaa", sum := "9201724eef437a49b63085e9d0f4a04c4ccc5eb0a05c2c256a85c6ee6156cae1", func := "chronobate/chronobatelaw11.MedianTells", spec := "medianTells", recurses := true, apart := false, narrowed := true }
def MedianTellsUptoSaid : Prop := medianTellsUptoRow.holds Try.pinned (OpenSpec.upto medianTellsSpec)

/-- 'chronobatelaw12.QuorumSelects', WHERE WHAT IT READS IS OF BULK AT MOST 1048576: true; the input reads as it did. -/
def quorumSelectsUptoRow : OpenClaim := { program := "ytnfnonphccnbkaa", sum := "9201724eef437a49b63085e9d0f4a04c4ccc5eb0a05c2c256a85c6ee6156cae1", func := "chronobate/chronobatelaw12.QuorumSelects", spec := "quorumSelects", unfollowed := true, recurses := true, apart := false, narrowed := true }
def QuorumSelectsUptoSaid : Prop := quorumSelectsUptoRow.holds Try.pinned (OpenSpec.upto quorumSelectsSpec)

/-- 'chronobatelaw12.QuorumMoves', WHERE WHAT IT READS IS OF BULK AT MOST 1048576: true; the input reads as it did. -/
def quorumMovesUptoRow : OpenClaim := { program := "ytnfnonphccnbkaa", sum := "9201724eef437a49b63085e9d0f4a04c4ccc5eb0a05c2c256a85c6ee6156cae1", func := "chronobate/chronobatelaw12.QuorumMoves", spec := "quorumMoves", unfollowed := true, recurses := true, apart := false, narrowed := true }
def QuorumMovesUptoSaid : Prop := quorumMovesUptoRow.holds Try.pinned (OpenSpec.upto quorumMovesSpec)

end Rows
end Go.Proofs.Ytnfnonphccnbkaa
