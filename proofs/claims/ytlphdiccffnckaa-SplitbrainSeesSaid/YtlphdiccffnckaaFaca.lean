/- A fact of the program: how it is made. -/
import Derived.Test.YtlphdiccffnckaaRows
import Derived.ProofKit
namespace Go.Proofs.Ytlphdiccffnckaa
open Go Go.ChangeShapes Go.WideShapes Go.ChangeAt Go.RowKit
set_option maxRecDepth 100000
theorem facMake : (Go.Proofs.Try.prog.make == some Rows.imageMakesRow.make) = true := by kernel_rfl
end Go.Proofs.Ytlphdiccffnckaa
