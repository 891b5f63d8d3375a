/- How the arguments of alibi/alibilaw11.ScriptGets are read, and the pure statement of this law. No condition. -/
import Derived.Test.YtfglfhanikpafaaQx5
import Derived.Test.YtfglfhanikpafaaRd
import Derived.KernelRfl
namespace Go.Proofs.Ytfglfhanikpafaa.Q.OfScriptGets
open Go.RowKit Go.Proofs.YtfglfhanikpafaaW.PrintWords Go.Proofs.YtfglfhanikpafaaW.PrintLast Go.Proofs.Ytfglfhanikpafaa.Q Go.Proofs.Ytfglfhanikpafaa.Rd
set_option linter.unusedVariables false
theorem reads24 : Reads Try.prog 24 (Kd.slice 5 (Kd.int .u8)) (fun x => (x.length ≤ maxLen ∧ ∀ x1 ∈ x, (Lit.int .u8 x1).wf = true)) := Reads.slice Try.underlying24 (Reads.int Try.underlying5) (by kernel_rfl)
def Aim : Prop := ∀ (l0 : List (Int)), (l0.length ≤ maxLen ∧ ∀ x2 ∈ l0, (Lit.int .u8 x2).wf = true) → ∃ k, alibilaw11_ScriptGets.f k l0 = some true
end Go.Proofs.Ytfglfhanikpafaa.Q.OfScriptGets
