/- A node, and places of lists of nodes. -/
import Derived.Test.YtpbbkfekibmaiaaQx0
import Derived.Test.YtpbbkfekibmaiaaPl
namespace Go.Proofs.Ytpbbkfekibmaiaa.Pg
open Go.RowKit Go.Proofs.YtpbbkfekibmaiaaW.PrintWords Go.Proofs.YtpbbkfekibmaiaaW.PrintLast Go.Proofs.YtpbbkfekibmaiaaW.PrintMore Go.Proofs.Ytpbbkfekibmaiaa.Q Go.Proofs.Ytpbbkfekibmaiaa.Pl
abbrev Nd := S35
theorem rdN (xs : List Nd) (i : Nat) (h : i < xs.length) : rd_T35 xs (i : Int) = xs[i] := getD_nat xs i _ h
theorem rdF (xs : List (List Nd)) (i : Nat) (h : i < xs.length) : rd_L2 xs (i : Int) = xs[i] := getD_nat xs i _ h
end Go.Proofs.Ytpbbkfekibmaiaa.Pg
