/- How the arguments of alibi/alibilaw03.SetsOnes are read, and the pure statement of this law. No condition. -/
import Derived.Test.YtfglfhanikpafaaDoorQx4
import Derived.Test.YtfglfhanikpafaaDoorRd
import Derived.KernelRfl
namespace Go.Proofs.YtfglfhanikpafaaDoor.Q.OfSetsOnes
open Go.RowKit Go.Proofs.YtfglfhanikpafaaDoorW.PrintWords Go.Proofs.YtfglfhanikpafaaDoorW.PrintLast Go.Proofs.YtfglfhanikpafaaDoor.Q Go.Proofs.YtfglfhanikpafaaDoor.Rd
set_option linter.unusedVariables false

def Aim : Prop := ∀ (a0 : Int) (a1 : Int), (Lit.int .i64 a0).wf = true → (Lit.int .i64 a1).wf = true → ∃ k, alibilaw03_SetsOnes.f k a0 a1 = some true
end Go.Proofs.YtfglfhanikpafaaDoor.Q.OfSetsOnes
