-- Words laid by the kit's print.sh; what this seat's texts don't need was left out by this session's wip/shake.py; Lean checks it.
import Derived.Test.YtpbbkfekibmaiaaDoorWInv
import Derived.Test.YtpbbkfekibmaiaaDoorWFootNe
namespace Go.Proofs.YtpbbkfekibmaiaaDoorW.PrintWords
open Go.RowKit
end Go.Proofs.YtpbbkfekibmaiaaDoorW.PrintWords
namespace Go.Proofs.YtpbbkfekibmaiaaDoorW.PrintLast
section
variable {ops : Array Oper} {a : Act} {o og : Oper} {g : Nat} {t : Tmp} {u : Bool}
end
end Go.Proofs.YtpbbkfekibmaiaaDoorW.PrintLast
