/-
  No cell of these rows narrows 'for every input' (looked for: loops, veiled, ifaces, maps, wideKeys, modest, calm, conditions, laid).
  DERIVED. THE GIVEN ROWS OF THIS SEAT. 5 by the template 'for every input the law returns true; each argument reads behind the call as it read before'; 0 by the template 'total and deterministic' (their statements: YtlcanhghhdjleaaTotals.lean).
  GIVEN WITH THE SEED: the statements are not yours to turn. If you find one false, say at which input.
  Laid BY PROGRAM, IN A SANDBOX (cutbox-rows.mjs): the forced cells as the released guide's own fill.sh prints them over the translation 6f2053c6a8921f5c… (all of the seat's roots in one cut). By AI agents, Wed Nov 11 2026. No macro, syntax, notation, axiom, sorry.
-/
import Derived.Test.YtlcanhghhdjleaaChecked
import GoSem.Claim
import GoSem.ClaimJoined
import GoSem.ClaimMapViews
import Derived.JoinedTies
import Derived.KernelRfl
namespace Go.Proofs.Ytlcanhghhdjleaa
/- THE CELL 'sum', in the pinned program and in every row, IS THE sha256 OF THE DUMP (.gsa) THAT YtlcanhghhdjleaaProg.lean LOADS. Nothing in Lean hashes anything: it is a label: what it is worth is what the hold of that sum in a sandbox is worth. -/
noncomputable def Try.pinned : Pinned := { name := "ytlcanhghhdjleaa", sum := "6f2053c6a8921f5cbc47490431f1ab1541dc2b4dbf381100827d4eb3359f3e4b", checked := Try.checked }
namespace Rows
def none {H : Type} : Left H := { results := [], args := [] }

/-- 'chronobatelaw09.RingOf': WHATEVER THE INPUT: true; the input reads as it did. -/
def ringOfSpec : ChangeSpec := { name := "ringOf", fn := fun _ => fun
  | [d] => { results := [.lit (.bool true)], args := [d] }
  | _ => none }
def ringOfRow : OpenClaim := { program := "ytlcanhghhdjleaa", sum := "6f2053c6a8921f5cbc47490431f1ab1541dc2b4dbf381100827d4eb3359f3e4b", func := "chronobate/chronobatelaw09.RingOf", spec := "ringOf", apart := false }
def RingOfSaid : Prop := ringOfRow.holds Try.pinned (OpenSpec.ofChange ringOfSpec)

/-- ITS FALSE NEIGHBOUR: 'it returns false'. Refute it at one input. -/
def ringOfWrong : ChangeSpec := { name := "ringOf", fn := fun _ => fun
  | [d] => { results := [.lit (.bool false)], args := [d] }
  | _ => none }
def RingOfWrongFalsely : Prop := ringOfRow.holds Try.pinned (OpenSpec.ofChange ringOfWrong)

/-- 'chronobatelaw09.RingGrows': WHATEVER THE INPUT: true; the input reads as it did. -/
def ringGrowsSpec : ChangeSpec := { name := "ringGrows", fn := fun _ => fun
  | [d1, d2] => { results := [.lit (.bool true)], args := [d1, d2] }
  | _ => none }
def ringGrowsRow : OpenClaim := { program := "ytlcanhghhdjleaa", sum := "6f2053c6a8921f5cbc47490431f1ab1541dc2b4dbf381100827d4eb3359f3e4b", func := "chronobate/chronobatelaw09.RingGrows", spec := "ringGrows", apart := false }
def RingGrowsSaid : Prop := ringGrowsRow.holds Try.pinned (OpenSpec.ofChange ringGrowsSpec)

/-- ITS FALSE NEIGHBOUR: 'it returns false'. Refute it at one input. -/
def ringGrowsWrong : ChangeSpec := { name := "ringGrows", fn := fun _ => fun
  | [d1, d2] => { results := [.lit (.bool false)], args := [d1, d2] }
  | _ => none }
def RingGrowsWrongFalsely : Prop := ringGrowsRow.holds Try.pinned (OpenSpec.ofChange ringGrowsWrong)

/-- 'chronobatelaw09.RingEnds': WHATEVER THE INPUT: true; the input reads as it did. -/
def ringEndsSpec : ChangeSpec := { name := "ringEnds", fn := fun _ => fun
  | [d1, d2] => { results := [.lit (.bool true)], args := [d1, d2] }
  | _ => none }
def ringEndsRow : OpenClaim := { program := "ytlcanhghhdjleaa", sum := "6f2053c6a8921f5cbc47490431f1ab1541dc2b4dbf381100827d4eb3359f3e4b", func := "chronobate/chronobatelaw09.RingEnds", spec := "ringEnds", apart := false }
def RingEndsSaid : Prop := ringEndsRow.holds Try.pinned (OpenSpec.ofChange ringEndsSpec)

/-- ITS FALSE NEIGHBOUR: 'it returns false'. Refute it at one input. -/
def ringEndsWrong : ChangeSpec := { name := "ringEnds", fn := fun _ => fun
  | [d1, d2] => { results := [.lit (.bool false)], args := [d1, d2] }
  | _ => none }
def RingEndsWrongFalsely : Prop := ringEndsRow.holds Try.pinned (OpenSpec.ofChange ringEndsWrong)

/-- 'chronobatelaw09.RingActs': WHATEVER THE INPUT: true; the input reads as it did. -/
def ringActsSpec : ChangeSpec := { name := "ringActs", fn := fun _ => fun
  | [d1, d2] => { results := [.lit (.bool true)], args := [d1, d2] }
  | _ => none }
def ringActsRow : OpenClaim := { program := "ytlcanhghhdjleaa", sum := "6f2053c6a8921f5cbc47490431f1ab1541dc2b4dbf381100827d4eb3359f3e4b", func := "chronobate/chronobatelaw09.RingActs", spec := "ringActs", apart := false }
def RingActsSaid : Prop := ringActsRow.holds Try.pinned (OpenSpec.ofChange ringActsSpec)

/-- ITS FALSE NEIGHBOUR: 'it returns false'. Refute it at one input. -/
def ringActsWrong : ChangeSpec := { name := "ringActs", fn := fun _ => fun
  | [d1, d2] => { results := [.lit (.bool false)], args := [d1, d2] }
  | _ => none }
def RingActsWrongFalsely : Prop := ringActsRow.holds Try.pinned (OpenSpec.ofChange ringActsWrong)

/-- 'chronobatelaw09.RingNone': WHATEVER THE INPUT: true; the input reads as it did. -/
def ringNoneSpec : ChangeSpec := { name := "ringNone", fn := fun _ => fun
  | [d1, d2] => { results := [.lit (.bool true)], args := [d1, d2] }
  | _ => none }
def ringNoneRow : OpenClaim := { program := "ytlcanhghhdjleaa", sum := "6f2053c6a8921f5cbc47490431f1ab1541dc2b4dbf381100827d4eb3359f3e4b", func := "chronobate/chronobatelaw09.RingNone", spec := "ringNone", apart := false }
def RingNoneSaid : Prop := ringNoneRow.holds Try.pinned (OpenSpec.ofChange ringNoneSpec)

/-- ITS FALSE NEIGHBOUR: 'it returns false'. Refute it at one input. -/
def ringNoneWrong : ChangeSpec := { name := "ringNone", fn := fun _ => fun
  | [d1, d2] => { results := [.lit (.bool false)], args := [d1, d2] }
  | _ => none }
def RingNoneWrongFalsely : Prop := ringNoneRow.holds Try.pinned (OpenSpec.ofChange ringNoneWrong)

/- THE SECOND FORM. 'bulk': how many values and letters a reading holds, each counted each time it is reached (what is shared counts as often as it is met; a slice's spare places count too). A statement '..UptoSaid' is the law's where the arguments, and the package variables that the reading takes, are together of bulk at most 1048576: NARROWER than '..Said'. Prove '..Said' where nothing that the law and all that it calls make is longer than what came in: it says more and counts as full. Else prove '..UptoSaid'. A law counts once. -/
mutual
def uptoBulk {H : Type} : DataW H → Nat
  | .lit (.string bytes) => bytes.length + 1
  | .lit _ => 1
  | .nil => 1
  | .ptr d => uptoBulk d + 1
  | .slice elems spare => uptoBulkAll elems + uptoBulkAll spare + 1
  | .agg parts => uptoBulkAll parts + 1
  | .iface _ d => uptoBulk d + 1
  | .map entries => uptoBulkEntries entries + 1
  | .held _ => 1
def uptoBulkAll {H : Type} : List (DataW H) → Nat
  | [] => 0
  | d :: r => uptoBulk d + uptoBulkAll r
def uptoBulkEntries {H : Type} : List (Lit × DataW H) → Nat
  | [] => 0
  | x :: r => uptoBulkEntry x + uptoBulkEntries r
def uptoBulkEntry {H : Type} : Lit × DataW H → Nat
  | (.string bytes, d) => bytes.length + uptoBulk d + 1
  | (_, d) => uptoBulk d + 1
 end
def uptoSmall : (H : Type) → List (DataW H) → Bool := fun _ ds => decide (uptoBulkAll ds ≤ 1048576)
def OpenSpec.upto (s : _root_.Go.ChangeSpec) : _root_.Go.OpenSpec := { _root_.Go.OpenSpec.ofChange s with cond := some uptoSmall }

/-- 'chronobatelaw09.RingOf', WHERE WHAT IT READS IS OF BULK AT MOST 1048576: true; the input reads as it did. -/
def ringOfUptoRow : OpenClaim := { program := "ytlcanhghhdjleaa", sum := "6f2053c6a8921f5cbc47490431f1ab1541dc2b4dbf381100827d4eb3359f3e4b", func := "chronobate/chronobatelaw09.RingOf", spec := "ringOf", apart := false, narrowed := true }
def RingOfUptoSaid : Prop := ringOfUptoRow.holds Try.pinned (OpenSpec.upto ringOfSpec)

/-- 'chronobatelaw09.RingGrows', WHERE WHAT IT READS IS OF BULK AT MOST 1048576: true; the input reads as it did. -/
def ringGrowsUptoRow : OpenClaim := { program := "ytlcanhghhdjleaa", sum := "6f2053c6a8921f5cbc47490431f1ab1541dc2b4dbf381100827d4eb3359f3e4b", func := "chronobate/chronobatelaw09.RingGrows", spec := "ringGrows", apart := false, narrowed := true }
def RingGrowsUptoSaid : Prop := ringGrowsUptoRow.holds Try.pinned (OpenSpec.upto ringGrowsSpec)

/-- 'chronobatelaw09.RingEnds', WHERE WHAT IT READS IS OF BULK AT MOST 1048576: true; the input reads as it did. -/
def ringEndsUptoRow : OpenClaim := { program := "ytlcanhghhdjleaa", sum := "6f2053c6a8921f5cbc47490431f1ab1541dc2b4dbf381100827d4eb3359f3e4b", func := "chronobate/chronobatelaw09.RingEnds", spec := "ringEnds", apart := false, narrowed := true }
def RingEndsUptoSaid : Prop := ringEndsUptoRow.holds Try.pinned (OpenSpec.upto ringEndsSpec)

/-- 'chronobatelaw09.RingActs', WHERE WHAT IT READS IS OF BULK AT MOST 1048576: true; the input reads as it did. -/
def ringActsUptoRow : OpenClaim := { program := "ytlcanhghhdjleaa", sum := "6f2053c6a8921f5cbc47490431f1ab1541dc2b4dbf381100827d4eb3359f3e4b", func := "chronobate/chronobatelaw09.RingActs", spec := "ringActs", apart := false, narrowed := true }
def RingActsUptoSaid : Prop := ringActsUptoRow.holds Try.pinned (OpenSpec.upto ringActsSpec)

/-- 'chronobatelaw09.RingNone', WHERE WHAT IT READS IS OF BULK AT MOST 1048576: true; the input reads as it did. -/
def ringNoneUptoRow : OpenClaim := { program := "ytlcanhghhdjleaa", sum := "6f2053c6a8921f5cbc47490431f1ab1541dc2b4dbf381100827d4eb3359f3e4b", func := "chronobate/chronobatelaw09.RingNone", spec := "ringNone", apart := false, narrowed := true }
def RingNoneUptoSaid : Prop := ringNoneUptoRow.holds Try.pinned (OpenSpec.upto ringNoneSpec)

end Rows
end Go.Proofs.Ytlcanhghhdjleaa
