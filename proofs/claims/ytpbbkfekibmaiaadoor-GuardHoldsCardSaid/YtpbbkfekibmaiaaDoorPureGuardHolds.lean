/- The pure statement of GuardHolds: both sides tell alike. No condition. -/
import Derived.Test.YtpbbkfekibmaiaaDoorQRdGuardHolds
import Derived.Test.YtpbbkfekibmaiaaDoorGdA
namespace Go.Proofs.YtpbbkfekibmaiaaDoor.Pure
open Go.RowKit Go.Proofs.YtpbbkfekibmaiaaDoorW.PrintWords Go.Proofs.YtpbbkfekibmaiaaDoorW.PrintLast Go.Proofs.YtpbbkfekibmaiaaDoorW.PrintMore Go.Proofs.YtpbbkfekibmaiaaDoor.Q Go.Proofs.YtpbbkfekibmaiaaDoor.Rd Go.Proofs.YtpbbkfekibmaiaaDoor.Pl Go.Proofs.YtpbbkfekibmaiaaDoor.Bt Go.Proofs.YtpbbkfekibmaiaaDoor.Sts Go.Proofs.YtpbbkfekibmaiaaDoor.Gd Go.Proofs.YtpbbkfekibmaiaaDoor.Q.OfGuardHolds

theorem GuardHolds : Aim := by
  rintro s0 a1 a2 a3 a4 _ h2 h3 _
  obtain ⟨held, rfl, hm⟩ := u32_nat h2
  obtain ⟨live, rfl, _⟩ := u32_nat h3
  refine Ev.rounds (Ev.bind awake (Ev.congr (fun k => by rw [if_pos rfl]) (Ev.bind (Ev.ret fun _ => holds_eq s0.f0 s0.f1 a1 hm) (Ev.bind (rholds_ev s0.f0 s0.f1 a1 hm) ?_))))
  refine Ev.congr (fun k => by rw [if_pos (beq_self_eq_true _)]) (Ev.bind (Ev.ret fun _ => right_eq s0.f0 s0.f1 a4) (Ev.bind (Ev.ret fun _ => rright_eq s0.f0 s0.f1 a4) (Ev.ret fun k => ?_)))
  rw [beq_self_eq_true]
end Go.Proofs.YtpbbkfekibmaiaaDoor.Pure
