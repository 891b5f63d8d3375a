/- How the arguments of alibi/alibilaw03.SetsBack are read, and the pure statement of this law. No condition. -/
import Derived.Test.YtfglfhanikpafaaDoorQx3
import Derived.Test.YtfglfhanikpafaaDoorRd
import Derived.KernelRfl
namespace Go.Proofs.YtfglfhanikpafaaDoor.Q.OfSetsBack
open Go.RowKit Go.Proofs.YtfglfhanikpafaaDoorW.PrintWords Go.Proofs.YtfglfhanikpafaaDoorW.PrintLast Go.Proofs.YtfglfhanikpafaaDoor.Q Go.Proofs.YtfglfhanikpafaaDoor.Rd
set_option linter.unusedVariables false

def Aim : Prop := ∀ (a0 : Int), (Lit.int .u32 a0).wf = true → ∃ k, alibilaw03_SetsBack.f k a0 = some true
end Go.Proofs.YtfglfhanikpafaaDoor.Q.OfSetsBack
