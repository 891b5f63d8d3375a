/- The pure statement of GuardMore: hv_more, for Read and for Write. No condition. -/
import Derived.Test.YtpbbkfekibmaiaaDoorQRdGuardMore
import Derived.Test.YtpbbkfekibmaiaaDoorGdA
namespace Go.Proofs.YtpbbkfekibmaiaaDoor.Pure
open Go.RowKit Go.Proofs.YtpbbkfekibmaiaaDoorW.PrintWords Go.Proofs.YtpbbkfekibmaiaaDoorW.PrintLast Go.Proofs.YtpbbkfekibmaiaaDoorW.PrintMore Go.Proofs.YtpbbkfekibmaiaaDoor.Q Go.Proofs.YtpbbkfekibmaiaaDoor.Rd Go.Proofs.YtpbbkfekibmaiaaDoor.Pl Go.Proofs.YtpbbkfekibmaiaaDoor.Bt Go.Proofs.YtpbbkfekibmaiaaDoor.Sts Go.Proofs.YtpbbkfekibmaiaaDoor.Gd Go.Proofs.YtpbbkfekibmaiaaDoor.Q.OfGuardMore

theorem round (kind lock : Int) {held live more fewer : Nat} (h1 : held < 4294967296) (h2 : live < 4294967296) (h3 : more < 4294967296) (h4 : fewer < 4294967296) (i : Int)
    (hnext : Ev (fun k => alibilaw17_GuardMore.l0 k (held : Int) (live : Int) (more : Int) (fewer : Int) (wrap64 (i + 1)) kind lock) true) (hi : i < 2) :
    Ev (fun k => alibilaw17_GuardMore.l0 k (held : Int) (live : Int) (more : Int) (fewer : Int) i kind lock) true := by
  refine Ev.one (Ev.bind (Ev.ret fun _ => holds_eq kind lock (i == 1) h1) ?_) fun k => by rw [alibilaw17_GuardMore.l0, if_pos hi]
  by_cases h : hv kind lock (i == 1) held live = true
  · obtain ⟨m1, m2⟩ := hv_more (more := more) (fewer := fewer) h
    refine Ev.congr (fun k => by rw [if_pos h, or32 h1 h3, and32 h2 h4]) (Ev.bind (Ev.ret fun _ => holds_eq kind lock (i == 1) (or_lt h1 h3)) ?_)
    refine Ev.congr (fun k => by rw [if_pos m1]) (Ev.bind (Ev.ret fun _ => holds_eq kind lock false h1) ?_)
    exact Ev.congr (fun k => by rw [if_pos m2]) hnext
  · exact Ev.congr (fun k => by rw [if_neg h]) hnext
theorem GuardMore : Aim := by
  rintro s0 a1 a2 a3 a4 _ h1 h2 h3 h4
  obtain ⟨held, rfl, m1⟩ := u32_nat h1
  obtain ⟨live, rfl, m2⟩ := u32_nat h2
  obtain ⟨more, rfl, m3⟩ := u32_nat h3
  obtain ⟨fewer, rfl, m4⟩ := u32_nat h4
  refine Ev.rounds (Ev.bind awake (Ev.congr (fun k => by rw [if_pos rfl]) ?_))
  refine round s0.f0 s0.f1 m1 m2 m3 m4 0 ?_ (by decide)
  rw [show wrap64 ((0 : Int) + 1) = 1 from w64 (by decide) (by decide)]
  refine round s0.f0 s0.f1 m1 m2 m3 m4 1 ?_ (by decide)
  rw [show wrap64 ((1 : Int) + 1) = 2 from w64 (by decide) (by decide)]
  exact Ev.one (Ev.now true) fun k => by rw [alibilaw17_GuardMore.l0, if_neg (by decide)]
end Go.Proofs.YtpbbkfekibmaiaaDoor.Pure
