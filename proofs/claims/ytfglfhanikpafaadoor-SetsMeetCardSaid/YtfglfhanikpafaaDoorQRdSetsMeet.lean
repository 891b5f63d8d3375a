/- How the arguments of alibi/alibilaw03.SetsMeet are read, and the pure statement of this law. No condition. -/
import Derived.Test.YtfglfhanikpafaaDoorQx7
import Derived.Test.YtfglfhanikpafaaDoorRd
import Derived.KernelRfl
namespace Go.Proofs.YtfglfhanikpafaaDoor.Q.OfSetsMeet
open Go.RowKit Go.Proofs.YtfglfhanikpafaaDoorW.PrintWords Go.Proofs.YtfglfhanikpafaaDoorW.PrintLast Go.Proofs.YtfglfhanikpafaaDoor.Q Go.Proofs.YtfglfhanikpafaaDoor.Rd
set_option linter.unusedVariables false
theorem reads42 : Reads Tryd.prog 42 (Kd.slice 24 (Kd.int .u32)) (fun x => (x.length ≤ maxLen ∧ ∀ x1 ∈ x, (Lit.int .u32 x1).wf = true)) := Reads.slice Tryd.underlying42 (Reads.int Tryd.underlying24) (by kernel_rfl)
def Aim : Prop := ∀ (l0 : List (Int)) (a1 : Int), (l0.length ≤ maxLen ∧ ∀ x2 ∈ l0, (Lit.int .u32 x2).wf = true) → (Lit.int .u32 a1).wf = true → ∃ k, alibilaw03_SetsMeet.f k l0 a1 = some true
end Go.Proofs.YtfglfhanikpafaaDoor.Q.OfSetsMeet
