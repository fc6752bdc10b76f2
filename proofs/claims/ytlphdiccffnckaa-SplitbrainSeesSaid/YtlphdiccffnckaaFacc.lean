/- A fact of the program: it may be entered. -/
import Derived.Test.YtlphdiccffnckaaRows
import Derived.ProofKit
namespace Go.Proofs.Ytlphdiccffnckaa
open Go Go.ChangeShapes Go.WideShapes Go.ChangeAt Go.RowKit
set_option maxRecDepth 100000
theorem facEnter : Go.Proofs.Try.prog.mayEnter = true := by kernel_rfl
end Go.Proofs.Ytlphdiccffnckaa
