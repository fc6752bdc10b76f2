/- Texts put together: Tab. -/
import Derived.Test.YtlphdiccffnckaaProg
import Derived.Test.YtlphdiccffnckaaPad
import Derived.Test.YtlphdiccffnckaaPae

/- What is known of the program's types. -/
namespace Go.Proofs.Ytlphdiccffnckaa
open Go Go.Abs
noncomputable def tt : TT := ttOf Go.Proofs.Try.prog [(52, [true, true, true, true, true, true, true, true]), (59, [true, true]), (143, [true, true, true])]
noncomputable def ev : Env := { T := tt }
end Go.Proofs.Ytlphdiccffnckaa

