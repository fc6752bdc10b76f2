/- A fact of the program: its finals. -/
import Derived.Test.YtlphdiccffnckaaRows
import Derived.ProofKit
namespace Go.Proofs.Ytlphdiccffnckaa
open Go Go.ChangeShapes Go.WideShapes Go.ChangeAt Go.RowKit
set_option maxRecDepth 100000
theorem facLift : (Rows.imageMakesRow.lifted == Go.Proofs.Try.prog.liftsFinal) = true := by kernel_rfl
end Go.Proofs.Ytlphdiccffnckaa
