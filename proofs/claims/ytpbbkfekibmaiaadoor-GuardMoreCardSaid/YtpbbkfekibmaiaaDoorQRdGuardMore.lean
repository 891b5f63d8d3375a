/- How the arguments of alibi/alibilaw17.GuardMore are read, and the pure statement of this law. No condition. -/
import Derived.Test.YtpbbkfekibmaiaaDoorQx5
import Derived.Test.YtpbbkfekibmaiaaDoorRd
import Derived.KernelRfl
namespace Go.Proofs.YtpbbkfekibmaiaaDoor.Q.OfGuardMore
open Go.RowKit Go.Proofs.YtpbbkfekibmaiaaDoorW.PrintWords Go.Proofs.YtpbbkfekibmaiaaDoorW.PrintLast Go.Proofs.YtpbbkfekibmaiaaDoor.Q Go.Proofs.YtpbbkfekibmaiaaDoor.Rd
set_option linter.unusedVariables false
def Wf33 (x : S33) : Prop := (Lit.int .i64 x.f0).wf = true ∧ (Lit.int .i64 x.f1).wf = true
theorem reads33 : Reads Tryd.prog 33 k33 Wf33 := by
  have h := Reads.struct (d := (Kd.pair (Kd.int .i64) (Kd.int .i64))) Tryd.underlying33 (by kernel_rfl) (ReadsF.cons (Reads.int Tryd.underlying3) (by kernel_rfl) (ReadsF.one (Reads.int Tryd.underlying3) (by kernel_rfl))) (fun x : S33 => (x.f0, x.f1)) (fun a => (⟨a.1, a.2⟩ : S33)) (fun _ => rfl)
  exact h
def Aim : Prop := ∀ (s0 : S33) (a1 : Int) (a2 : Int) (a3 : Int) (a4 : Int), Wf33 s0 → (Lit.int .u32 a1).wf = true → (Lit.int .u32 a2).wf = true → (Lit.int .u32 a3).wf = true → (Lit.int .u32 a4).wf = true → ∃ k, alibilaw17_GuardMore.f k s0.f0 s0.f1 a1 a2 a3 a4 = some true
end Go.Proofs.YtpbbkfekibmaiaaDoor.Q.OfGuardMore
