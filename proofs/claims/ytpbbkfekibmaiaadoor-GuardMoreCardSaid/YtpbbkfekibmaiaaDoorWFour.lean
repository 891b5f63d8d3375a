-- Words laid by the kit's print.sh; what this seat's texts don't need was left out by this session's wip/shake.py; Lean checks it.
import Derived.Test.YtpbbkfekibmaiaaDoorWTab
/-! ### 56. Four, five, six operations that may come up next, in any order -/
namespace Go.Proofs.YtpbbkfekibmaiaaDoorW.PrintLast
section
variable {P : Program} {ops : Array Oper} {Q : Exit → Act → World → Prop} {md : Region.Mode} {S : World → Prop} {ds : List Nat} {T : Bool × List (List Nat × List Nat)}
end
end Go.Proofs.YtpbbkfekibmaiaaDoorW.PrintLast
