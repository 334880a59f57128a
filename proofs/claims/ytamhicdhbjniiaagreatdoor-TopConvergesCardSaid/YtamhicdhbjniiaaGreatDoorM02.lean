/- Three closed facts of the whole program, reckoned once. -/
import Derived.Test.YtamhicdhbjniiaaGreatDoorRows
import Derived.ProofKit
set_option linter.unusedVariables false
namespace Go.Proofs.YtamhicdhbjniiaaGreatDoor
section
open Go.ChangeShapes Go.WideShapes Go.ChangeAt Go.RowKit
theorem mayEnterF : Tryz.checked.prog.mayEnter = true := by kernel_rfl
theorem liftsFinalF : Tryz.checked.prog.liftsFinal = Rows.topBackoffRow.lifted := by kernel_rfl
theorem makeF : Tryz.checked.prog.make = some Rows.topBackoffRow.make := by kernel_rfl
end
end Go.Proofs.YtamhicdhbjniiaaGreatDoor
