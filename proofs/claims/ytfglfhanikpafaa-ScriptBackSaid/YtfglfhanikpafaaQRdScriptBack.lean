/- How the arguments of alibi/alibilaw11.ScriptBack are read, and the pure statement of this law. No condition. -/
import Derived.Test.YtfglfhanikpafaaQx6
import Derived.Test.YtfglfhanikpafaaRd
import Derived.KernelRfl
namespace Go.Proofs.Ytfglfhanikpafaa.Q.OfScriptBack
open Go.RowKit Go.Proofs.YtfglfhanikpafaaW.PrintWords Go.Proofs.YtfglfhanikpafaaW.PrintLast Go.Proofs.Ytfglfhanikpafaa.Q Go.Proofs.Ytfglfhanikpafaa.Rd
set_option linter.unusedVariables false
def Wf29 (x : S29) : Prop := (Lit.int .i64 x.f0).wf = true ∧ True
theorem reads29 : Reads Try.prog 29 k29 Wf29 := by
  have h := Reads.struct (d := (Kd.pair (Kd.int .i64) Kd.bool)) Try.underlying29 (by kernel_rfl) (ReadsF.cons (Reads.int Try.underlying3) (by kernel_rfl) (ReadsF.one (Reads.bool Try.underlying4) (by kernel_rfl))) (fun x : S29 => (x.f0, x.f1)) (fun a => (⟨a.1, a.2⟩ : S29)) (fun _ => rfl)
  exact h
theorem reads22 : Reads Try.prog 22 (Kd.slice 29 k29) (fun x => (x.length ≤ maxLen ∧ ∀ x1 ∈ x, Wf29 x1)) := Reads.slice Try.underlying22 reads29 (by kernel_rfl)
def Aim : Prop := ∀ (l0 : List (S29)), (l0.length ≤ maxLen ∧ ∀ x2 ∈ l0, Wf29 x2) → ∃ k, alibilaw11_ScriptBack.f k l0 = some true
end Go.Proofs.Ytfglfhanikpafaa.Q.OfScriptBack
