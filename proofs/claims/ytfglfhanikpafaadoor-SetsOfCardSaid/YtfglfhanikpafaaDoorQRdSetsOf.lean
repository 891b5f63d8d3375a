/- How the arguments of alibi/alibilaw03.SetsOf are read, and the pure statement of this law. No condition. -/
import Derived.Test.YtfglfhanikpafaaDoorQx2
import Derived.Test.YtfglfhanikpafaaDoorRd
import Derived.KernelRfl
namespace Go.Proofs.YtfglfhanikpafaaDoor.Q.OfSetsOf
open Go.RowKit Go.Proofs.YtfglfhanikpafaaDoorW.PrintWords Go.Proofs.YtfglfhanikpafaaDoorW.PrintLast Go.Proofs.YtfglfhanikpafaaDoor.Q Go.Proofs.YtfglfhanikpafaaDoor.Rd
set_option linter.unusedVariables false
theorem reads22 : Reads Tryd.prog 22 (Kd.slice 3 (Kd.int .i64)) (fun x => (x.length ≤ maxLen ∧ ∀ x1 ∈ x, (Lit.int .i64 x1).wf = true)) := Reads.slice Tryd.underlying22 (Reads.int Tryd.underlying3) (by kernel_rfl)
def Aim : Prop := ∀ (l0 : List (Int)) (a1 : Int), (l0.length ≤ maxLen ∧ ∀ x2 ∈ l0, (Lit.int .i64 x2).wf = true) → (Lit.int .i64 a1).wf = true → ∃ k, alibilaw03_SetsOf.f k l0 a1 = some true
end Go.Proofs.YtfglfhanikpafaaDoor.Q.OfSetsOf
