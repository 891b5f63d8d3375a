/- The pure statement of SetsOf: both sides go through the list with one and the same look at each place. No condition. -/
import Derived.Test.YtfglfhanikpafaaDoorQRdSetsOf
import Derived.Test.YtfglfhanikpafaaDoorSts
namespace Go.Proofs.YtfglfhanikpafaaDoor.Pure
open Go.RowKit Go.Proofs.YtfglfhanikpafaaDoorW.PrintWords Go.Proofs.YtfglfhanikpafaaDoorW.PrintLast Go.Proofs.YtfglfhanikpafaaDoorW.PrintMore Go.Proofs.YtfglfhanikpafaaDoor.Q Go.Proofs.YtfglfhanikpafaaDoor.Rd Go.Proofs.YtfglfhanikpafaaDoor.Pl Go.Proofs.YtfglfhanikpafaaDoor.Bt Go.Proofs.YtfglfhanikpafaaDoor.Sts Go.Proofs.YtfglfhanikpafaaDoor.Q.OfSetsOf

theorem SetsOf : Aim := by
  rintro l size ⟨_, _⟩ _
  refine Ev.rounds (Ev.bind awake ?_)
  show Ev (fun k => if true = true then alibilaw03_SetsOf.j0 k l size (decide ((l.length : Int) > 300)) else alibilaw03_SetsOf.j0 k l size true) true
  by_cases h : (l.length : Int) > 300
  · exact Ev.one (f := fun k => (alibilaw03_awake.f k).bind fun t => some t) (Ev.bind awake (Ev.now true)) fun k => by rw [if_pos rfl, alibilaw03_SetsOf.j0, decide_eq_true h, if_pos rfl]
  · have go : ∀ r : Int × Int, Ev (fun k => sets_Of.f k l size) r → Ev (fun k => alibiref03_Of.f k l size) r → Ev (fun k => if true = true then alibilaw03_SetsOf.j0 k l size (decide ((l.length : Int) > 300)) else alibilaw03_SetsOf.j0 k l size true) true := by
      intro r h1 h2
      refine Ev.one (Ev.bind h1 (Ev.bind h2 (Ev.ret fun k => ?_))) fun k => by rw [if_pos rfl, alibilaw03_SetsOf.j0, decide_eq_false h, if_neg (by decide)]
      rw [if_pos rfl, beq_self_eq_true]
    by_cases hc : chk size none l = 0
    · exact go _ (of_ev_ok l size (by omega) hc) (rof_ok l size (by omega) hc l.length 0 (by omega) (by simpa [prv] using hc))
    · exact go _ (of_ev_bad l size (by omega) hc) (rof_bad l size (by omega) _ hc l.length 0 (by omega) (by simp [prv]))
end Go.Proofs.YtfglfhanikpafaaDoor.Pure
