/- The watch of law 05. -/
import Derived.Test.YtpbbkfekibmaiaaQx5
import Derived.Test.YtpbbkfekibmaiaaPgN
import Derived.KernelRfl
namespace Go.Proofs.Ytpbbkfekibmaiaa.Pg
open Go.RowKit Go.Proofs.YtpbbkfekibmaiaaW.PrintWords Go.Proofs.YtpbbkfekibmaiaaW.PrintLast Go.Proofs.YtpbbkfekibmaiaaW.PrintMore Go.Proofs.Ytpbbkfekibmaiaa.Q Go.Proofs.Ytpbbkfekibmaiaa.Pl
theorem check_nine : Ev (fun k => prog_Check.f k 0 0 0 (([(([(⟨9, 0, 0, 0⟩ : Nd)] : List (Nd)))] : List (List (Nd))))) (0, 0, 0) := by
  refine ⟨40, fun k hk => ?_⟩
  obtain ⟨j, rfl⟩ := Nat.exists_eq_add_of_le hk
  rw [Nat.add_comm]
  kernel_rfl
theorem check_seven : Ev (fun k => prog_Check.f k 0 0 0 (([(([(⟨7, 0, 0, 0⟩ : Nd)] : List (Nd)))] : List (List (Nd))))) (0, 0, 8) := by
  refine ⟨40, fun k hk => ?_⟩
  obtain ⟨j, rfl⟩ := Nat.exists_eq_add_of_le hk
  rw [Nat.add_comm]
  kernel_rfl
theorem awake : Ev (fun k => alibilaw05_awake.f k) true := by
  refine Ev.bind check_nine (Ev.bind check_seven (Ev.ret fun k => ?_))
  rw [if_pos rfl, if_pos rfl, if_pos rfl]; rfl
end Go.Proofs.Ytpbbkfekibmaiaa.Pg
