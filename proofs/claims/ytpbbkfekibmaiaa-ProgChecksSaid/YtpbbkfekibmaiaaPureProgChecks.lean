/- The pure statement of ProgChecks: both checks tell the same. No condition. -/
import Derived.Test.YtpbbkfekibmaiaaQRdProgChecks
import Derived.Test.YtpbbkfekibmaiaaPgF
namespace Go.Proofs.Ytpbbkfekibmaiaa.Pure
open Go.RowKit Go.Proofs.YtpbbkfekibmaiaaW.PrintWords Go.Proofs.YtpbbkfekibmaiaaW.PrintLast Go.Proofs.YtpbbkfekibmaiaaW.PrintMore Go.Proofs.Ytpbbkfekibmaiaa.Q Go.Proofs.Ytpbbkfekibmaiaa.Rd Go.Proofs.Ytpbbkfekibmaiaa.Pl Go.Proofs.Ytpbbkfekibmaiaa.Pg Go.Proofs.Ytpbbkfekibmaiaa.Q.OfProgChecks

theorem ProgChecks : Aim := by
  rintro s0 _
  refine Ev.rounds (Ev.bind awake ?_)
  obtain ⟨b, hb, hs⟩ := small_ev s0.f0 s0.f1 s0.f2 s0.f3
  refine Ev.congr (fun k => by rw [if_pos rfl]) (Ev.bind hb ?_)
  cases b with
  | false => exact Ev.one (f := fun k => (alibilaw05_awake.f k).bind fun t => some t) (Ev.bind awake (Ev.now true)) fun k => by rw [alibilaw05_ProgChecks.j0, if_pos (by rfl)]
  | true =>
    obtain ⟨r, h1, h2, _, _⟩ := check_told s0.f0 s0.f1 s0.f2 s0.f3
    refine Ev.one (Ev.bind h1 (Ev.bind h2 (Ev.ret fun k => ?_))) fun k => by rw [alibilaw05_ProgChecks.j0, if_neg (by decide)]
    rw [if_pos rfl, if_pos rfl, beq_self_eq_true]
end Go.Proofs.Ytpbbkfekibmaiaa.Pure
