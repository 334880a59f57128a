/- Three closed facts of the whole program, reckoned once: each takes the kernel a minute and nine gigabytes. -/
import Derived.Test.YthholmapjbaknaaRows
import Derived.ProofKit
namespace Go.Proofs.Ythholmapjbaknaa
open Go.ChangeShapes Go.WideShapes Go.ChangeAt Go.RowKit
theorem mayEnterF : Try.checked.prog.mayEnter = true := by kernel_rfl
theorem liftsFinalF : Try.checked.prog.liftsFinal = Rows.wakeNoneRow.lifted := by kernel_rfl
theorem makeF : Try.checked.prog.make = some Rows.wakeNoneRow.make := by kernel_rfl
end Go.Proofs.Ythholmapjbaknaa
