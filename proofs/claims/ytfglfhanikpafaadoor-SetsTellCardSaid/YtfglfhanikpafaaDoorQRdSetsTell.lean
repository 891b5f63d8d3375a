/- How the arguments of alibi/alibilaw03.SetsTell are read, and the pure statement of this law. No condition. -/
import Derived.Test.YtfglfhanikpafaaDoorQx6
import Derived.Test.YtfglfhanikpafaaDoorRd
import Derived.KernelRfl
namespace Go.Proofs.YtfglfhanikpafaaDoor.Q.OfSetsTell
open Go.RowKit Go.Proofs.YtfglfhanikpafaaDoorW.PrintWords Go.Proofs.YtfglfhanikpafaaDoorW.PrintLast Go.Proofs.YtfglfhanikpafaaDoor.Q Go.Proofs.YtfglfhanikpafaaDoor.Rd
set_option linter.unusedVariables false

def Aim : Prop := ∀ (a0 : Int) (a1 : Int) (a2 : Int), (Lit.int .u32 a0).wf = true → (Lit.int .u32 a1).wf = true → (Lit.int .i64 a2).wf = true → ∃ k, alibilaw03_SetsTell.f k a0 a1 a2 = some true
end Go.Proofs.YtfglfhanikpafaaDoor.Q.OfSetsTell
