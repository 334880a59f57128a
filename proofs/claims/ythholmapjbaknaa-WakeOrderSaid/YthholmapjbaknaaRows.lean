/-
  No cell of these rows narrows 'for every input' (looked for: loops, veiled, ifaces, maps, wideKeys, modest, calm, conditions, laid).
  DERIVED. THE GIVEN ROWS OF THIS SEAT. 5 by the template 'for every input the law returns true; each argument reads behind the call as it read before'; 0 by the template 'total and deterministic' (their statements: YthholmapjbaknaaTotals.lean).
  GIVEN WITH THE SEED: the statements are not yours to turn. If you find one false, say at which input.
  Laid BY PROGRAM, IN A SANDBOX (cutbox-rows.mjs): the forced cells as the released guide's own fill.sh prints them over the translation 981332244a27b7e2… (all of the seat's roots in one cut). By AI agents, Wed Nov 11 2026. No macro, syntax, notation, axiom, sorry.
-/
import Derived.Test.YthholmapjbaknaaChecked
import GoSem.Claim
import GoSem.ClaimJoined
import GoSem.ClaimMapViews
import Derived.JoinedTies
import Derived.KernelRfl
namespace Go.Proofs.Ythholmapjbaknaa
/- THE CELL 'sum', in the pinned program and in every row, IS THE sha256 OF THE DUMP (.gsa) THAT YthholmapjbaknaaProg.lean LOADS. Nothing in Lean hashes anything: it is a label: what it is worth is what the hold of that sum in a sandbox is worth. -/
noncomputable def Try.pinned : Pinned := { name := "ythholmapjbaknaa", sum := "981332244a27b7e28ea40558e98b21b278eadfc3b914cdff19f23d09429385eb", checked := Try.checked }
namespace Rows
def none {H : Type} : Left H := { results := [], args := [] }

/-- 'chronobatelaw15.WakeAgain': WHATEVER THE INPUT: true; the input reads as it did. -/
def wakeAgainSpec : ChangeSpec := { name := "wakeAgain", fn := fun _ => fun
  | [d1, d2] => { results := [.lit (.bool true)], args := [d1, d2] }
  | _ => none }
def wakeAgainRow : OpenClaim := { program := "ythholmapjbaknaa", sum := "981332244a27b7e28ea40558e98b21b278eadfc3b914cdff19f23d09429385eb", func := "chronobate/chronobatelaw15.WakeAgain", spec := "wakeAgain", unfollowed := true, recurses := true, apart := false }
def WakeAgainSaid : Prop := wakeAgainRow.holds Try.pinned (OpenSpec.ofChange wakeAgainSpec)

/-- ITS FALSE NEIGHBOUR: 'it returns false'. Refute it at one input. -/
def wakeAgainWrong : ChangeSpec := { name := "wakeAgain", fn := fun _ => fun
  | [d1, d2] => { results := [.lit (.bool false)], args := [d1, d2] }
  | _ => none }
def WakeAgainWrongFalsely : Prop := wakeAgainRow.holds Try.pinned (OpenSpec.ofChange wakeAgainWrong)

/-- 'chronobatelaw15.WakeOrder': WHATEVER THE INPUT: true; the input reads as it did. -/
def wakeOrderSpec : ChangeSpec := { name := "wakeOrder", fn := fun _ => fun
  | [d1, d2] => { results := [.lit (.bool true)], args := [d1, d2] }
  | _ => none }
def wakeOrderRow : OpenClaim := { program := "ythholmapjbaknaa", sum := "981332244a27b7e28ea40558e98b21b278eadfc3b914cdff19f23d09429385eb", func := "chronobate/chronobatelaw15.WakeOrder", spec := "wakeOrder", unfollowed := true, recurses := true, apart := false }
def WakeOrderSaid : Prop := wakeOrderRow.holds Try.pinned (OpenSpec.ofChange wakeOrderSpec)

/-- ITS FALSE NEIGHBOUR: 'it returns false'. Refute it at one input. -/
def wakeOrderWrong : ChangeSpec := { name := "wakeOrder", fn := fun _ => fun
  | [d1, d2] => { results := [.lit (.bool false)], args := [d1, d2] }
  | _ => none }
def WakeOrderWrongFalsely : Prop := wakeOrderRow.holds Try.pinned (OpenSpec.ofChange wakeOrderWrong)

/-- 'chronobatelaw15.WakeActs': WHATEVER THE INPUT: true; the input reads as it did. -/
def wakeActsSpec : ChangeSpec := { name := "wakeActs", fn := fun _ => fun
  | [d1, d2] => { results := [.lit (.bool true)], args := [d1, d2] }
  | _ => none }
def wakeActsRow : OpenClaim := { program := "ythholmapjbaknaa", sum := "981332244a27b7e28ea40558e98b21b278eadfc3b914cdff19f23d09429385eb", func := "chronobate/chronobatelaw15.WakeActs", spec := "wakeActs", unfollowed := true, recurses := true, apart := false }
def WakeActsSaid : Prop := wakeActsRow.holds Try.pinned (OpenSpec.ofChange wakeActsSpec)

/-- ITS FALSE NEIGHBOUR: 'it returns false'. Refute it at one input. -/
def wakeActsWrong : ChangeSpec := { name := "wakeActs", fn := fun _ => fun
  | [d1, d2] => { results := [.lit (.bool false)], args := [d1, d2] }
  | _ => none }
def WakeActsWrongFalsely : Prop := wakeActsRow.holds Try.pinned (OpenSpec.ofChange wakeActsWrong)

/-- 'chronobatelaw15.WakeNone': WHATEVER THE INPUT: true; the input reads as it did. -/
def wakeNoneSpec : ChangeSpec := { name := "wakeNone", fn := fun _ => fun
  | [d1, d2] => { results := [.lit (.bool true)], args := [d1, d2] }
  | _ => none }
def wakeNoneRow : OpenClaim := { program := "ythholmapjbaknaa", sum := "981332244a27b7e28ea40558e98b21b278eadfc3b914cdff19f23d09429385eb", func := "chronobate/chronobatelaw15.WakeNone", spec := "wakeNone", unfollowed := true, recurses := true, apart := false }
def WakeNoneSaid : Prop := wakeNoneRow.holds Try.pinned (OpenSpec.ofChange wakeNoneSpec)

/-- ITS FALSE NEIGHBOUR: 'it returns false'. Refute it at one input. -/
def wakeNoneWrong : ChangeSpec := { name := "wakeNone", fn := fun _ => fun
  | [d1, d2] => { results := [.lit (.bool false)], args := [d1, d2] }
  | _ => none }
def WakeNoneWrongFalsely : Prop := wakeNoneRow.holds Try.pinned (OpenSpec.ofChange wakeNoneWrong)

/-- 'chronobatelaw15.WakeTwo': WHATEVER THE INPUT: true; the input reads as it did. -/
def wakeTwoSpec : ChangeSpec := { name := "wakeTwo", fn := fun _ => fun
  | [d] => { results := [.lit (.bool true)], args := [d] }
  | _ => none }
def wakeTwoRow : OpenClaim := { program := "ythholmapjbaknaa", sum := "981332244a27b7e28ea40558e98b21b278eadfc3b914cdff19f23d09429385eb", func := "chronobate/chronobatelaw15.WakeTwo", spec := "wakeTwo", unfollowed := true, recurses := true, apart := false }
def WakeTwoSaid : Prop := wakeTwoRow.holds Try.pinned (OpenSpec.ofChange wakeTwoSpec)

/-- ITS FALSE NEIGHBOUR: 'it returns false'. Refute it at one input. -/
def wakeTwoWrong : ChangeSpec := { name := "wakeTwo", fn := fun _ => fun
  | [d] => { results := [.lit (.bool false)], args := [d] }
  | _ => none }
def WakeTwoWrongFalsely : Prop := wakeTwoRow.holds Try.pinned (OpenSpec.ofChange wakeTwoWrong)

/- THE SECOND FORM. 'bulk': how many values and letters a reading holds, each counted each time it is reached (what is shared counts as often as it is met; a slice's spare places count too). A statement '..UptoSaid' is the law's where the arguments, and the package variables that the reading takes, are together of bulk at most 1048576: NARROWER than '..Said'. Prove '..Said' where nothing that the law and all that it calls make is longer than what came in: it says more and counts as full. Else prove '..UptoSaid'. A law counts once. -/
mutual
def uptoBulk {H : Type} : DataW H → Nat
  | .lit (.string bytes) => bytes.length + 1
  | .lit _ => 1
  | .nil => 1
  | .ptr d => uptoBulk d + 1
  | .slice elems spare => uptoBulkAll elems + uptoBulkAll spare + 1
  | .agg parts => uptoBulkAll parts + 1
  | .iface _ d => uptoBulk d + 1
  | .map entries => uptoBulkEntries entries + 1
  | .held _ => 1
def uptoBulkAll {H : Type} : List (DataW H) → Nat
  | [] => 0
  | d :: r => uptoBulk d + uptoBulkAll r
def uptoBulkEntries {H : Type} : List (Lit × DataW H) → Nat
  | [] => 0
  | x :: r => uptoBulkEntry x + uptoBulkEntries r
def uptoBulkEntry {H : Type} : Lit × DataW H → Nat
  | (.string bytes, d) => bytes.length + uptoBulk d + 1
  | (_, d) => uptoBulk d + 1
 end
def uptoSmall : (H : Type) → List (DataW H) → Bool := fun _ ds => decide (uptoBulkAll ds ≤ 1048576)
def OpenSpec.upto (s : _root_.Go.ChangeSpec) : _root_.Go.OpenSpec := { _root_.Go.OpenSpec.ofChange s with cond := some uptoSmall }

/-- 'chronobatelaw15.WakeAgain', WHERE WHAT IT READS IS OF BULK AT MOST 1048576: true; the input reads as it did. -/
def wakeAgainUptoRow : OpenClaim := { program := "ythholmapjbaknaa", sum := "981332244a27b7e28ea40558e98b21b278eadfc3b914cdff19f23d09429385eb", func := "chronobate/chronobatelaw15.WakeAgain", spec := "wakeAgain", unfollowed := true, recurses := true, apart := false, narrowed := true }
def WakeAgainUptoSaid : Prop := wakeAgainUptoRow.holds Try.pinned (OpenSpec.upto wakeAgainSpec)

/-- 'chronobatelaw15.WakeOrder', WHERE WHAT IT READS IS OF BULK AT MOST 1048576: true; the input reads as it did. -/
def wakeOrderUptoRow : OpenClaim := { program := "ythholmapjbaknaa", sum := "981332244a27b7e28ea40558e98b21b278eadfc3b914cdff19f23d09429385eb", func := "chronobate/chronobatelaw15.WakeOrder", spec := "wakeOrder", unfollowed := true, recurses := true, apart := false, narrowed := true }
def WakeOrderUptoSaid : Prop := wakeOrderUptoRow.holds Try.pinned (OpenSpec.upto wakeOrderSpec)

/-- 'chronobatelaw15.WakeActs', WHERE WHAT IT READS IS OF BULK AT MOST 1048576: true; the input reads as it did. -/
def wakeActsUptoRow : OpenClaim := { program := "ythholmapjbaknaa", sum := "981332244a27b7e28ea40558e98b21b278eadfc3b914cdff19f23d09429385eb", func := "chronobate/chronobatelaw15.WakeActs", spec := "wakeActs", unfollowed := true, recurses := true, apart := false, narrowed := true }
def WakeActsUptoSaid : Prop := wakeActsUptoRow.holds Try.pinned (OpenSpec.upto wakeActsSpec)

/-- 'chronobatelaw15.WakeNone', WHERE WHAT IT READS IS OF BULK AT MOST 1048576: true; the input reads as it did. -/
def wakeNoneUptoRow : OpenClaim := { program := "ythholmapjbaknaa", sum := "981332244a27b7e28ea40558e98b21b278eadfc3b914cdff19f23d09429385eb", func := "chronobate/chronobatelaw15.WakeNone", spec := "wakeNone", unfollowed := true, recurses := true, apart := false, narrowed := true }
def WakeNoneUptoSaid : Prop := wakeNoneUptoRow.holds Try.pinned (OpenSpec.upto wakeNoneSpec)

/-- 'chronobatelaw15.WakeTwo', WHERE WHAT IT READS IS OF BULK AT MOST 1048576: true; the input reads as it did. -/
def wakeTwoUptoRow : OpenClaim := { program := "ythholmapjbaknaa", sum := "981332244a27b7e28ea40558e98b21b278eadfc3b914cdff19f23d09429385eb", func := "chronobate/chronobatelaw15.WakeTwo", spec := "wakeTwo", unfollowed := true, recurses := true, apart := false, narrowed := true }
def WakeTwoUptoSaid : Prop := wakeTwoUptoRow.holds Try.pinned (OpenSpec.upto wakeTwoSpec)

end Rows
end Go.Proofs.Ythholmapjbaknaa
