/- The pure statement of ProgFront: a program that may be stays so with more of everything, up to the bounds. No condition. -/
import Derived.Test.YtpbbkfekibmaiaaQRdProgFront
import Derived.Test.YtpbbkfekibmaiaaPgF
namespace Go.Proofs.Ytpbbkfekibmaiaa.Pure
open Go.RowKit Go.Proofs.YtpbbkfekibmaiaaW.PrintWords Go.Proofs.YtpbbkfekibmaiaaW.PrintLast Go.Proofs.YtpbbkfekibmaiaaW.PrintMore Go.Proofs.Ytpbbkfekibmaiaa.Q Go.Proofs.Ytpbbkfekibmaiaa.Rd Go.Proofs.Ytpbbkfekibmaiaa.Pl Go.Proofs.Ytpbbkfekibmaiaa.Pg Go.Proofs.Ytpbbkfekibmaiaa.Q.OfProgFront

theorem inr_mono {x m m' : Int} (h : m ≤ m') (hx : inr x m) : inr x m' := by unfold inr at *; omega
theorem okN_mono {g l s nf sz g' l' s' : Int} (hg : g ≤ g') (hl : l ≤ l') (hs : s ≤ s') {n : Nd} (h : okN g l s nf sz n) : okN g' l' s' nf sz n := by
  unfold okN at *
  rcases h with h | ⟨a, b, c⟩ | ⟨a, b, c⟩ | ⟨a, b, c, d⟩ | ⟨a, b, c⟩ | h | h | h
  · exact .inl h
  · exact .inr (.inl ⟨a, inr_mono hg b, c⟩)
  · exact .inr (.inr (.inl ⟨a, inr_mono hl b, c⟩))
  · exact .inr (.inr (.inr (.inl ⟨a, b, c, inr_mono hs d⟩)))
  · exact .inr (.inr (.inr (.inr (.inl ⟨a, inr_mono hs b, c⟩))))
  · exact .inr (.inr (.inr (.inr (.inr (.inl h)))))
  · exact .inr (.inr (.inr (.inr (.inr (.inr (.inl h))))))
  · exact .inr (.inr (.inr (.inr (.inr (.inr (.inr h))))))
theorem more {g a m : Int} (hg : 0 ≤ g ∧ g ≤ 16) (ha : (Lit.int .u8 a).wf = true) (hm : 0 < m) (hm' : m ≤ 20) : g ≤ wrap64 (g + Int.tmod (wrap64 a) m) := by
  have hb := bounds_u8 ha
  rw [w64 (x := a) (by omega) (by omega), Int.tmod_eq_emod_of_nonneg hb.1]
  have h1 := Int.emod_nonneg a (b := m) (by omega)
  have h2 := Int.emod_lt_of_pos a hm
  rw [w64 (by omega) (by omega)]
  omega
theorem ProgFront : Aim := by
  rintro s0 a1 a2 a3 _ ha1 ha2 ha3
  refine Ev.rounds (Ev.bind awake ?_)
  obtain ⟨b, hb, hs⟩ := small_ev s0.f0 s0.f1 s0.f2 s0.f3
  refine Ev.congr (fun k => by rw [if_pos rfl]) (Ev.bind hb ?_)
  cases b with
  | false => exact Ev.one (f := fun k => (alibilaw05_awake.f k).bind fun t => some t) (Ev.bind awake (Ev.now true)) fun k => by rw [alibilaw05_ProgFront.j0, if_pos (by rfl)]
  | true =>
    obtain ⟨r, h1, _, h3, h4⟩ := check_told s0.f0 s0.f1 s0.f2 s0.f3
    refine Ev.one (Ev.bind h1 ?_) fun k => by rw [alibilaw05_ProgFront.j0, if_neg (by decide)]
    by_cases h0 : r.2.2 = 0
    · obtain ⟨p1, p2, p3, p4, p5, p6⟩ := h4.1 (h3 h0)
      have q1 := more (a := a1) (m := 20) p1 ha1 (by omega) (by omega)
      have q2 := more (a := a2) (m := 20) p2 ha2 (by omega) (by omega)
      have q3 := more (a := a3) (m := 12) ⟨p3.1, by omega⟩ ha3 (by omega) (by omega)
      refine Ev.congr (fun k => by rw [if_pos h0]) ?_
      generalize wrap64 (s0.f0 + Int.tmod (wrap64 a1) 20) = g at *
      generalize wrap64 (s0.f1 + Int.tmod (wrap64 a2) 20) = l at *
      generalize wrap64 (s0.f2 + Int.tmod (wrap64 a3) 12) = s at *
      by_cases ok : g ≤ 16 ∧ l ≤ 16 ∧ s ≤ 8
      · obtain ⟨r', e1, _, _, e4⟩ := check_told g l s s0.f3
        have e := e4.2 ⟨⟨by omega, ok.1⟩, ⟨by omega, ok.2.1⟩, ⟨by omega, ok.2.2⟩, p4, fun f hf => ⟨(p5 f hf).1, (p5 f hf).2.1, fun nd hnd => okN_mono q1 q2 q3 ((p5 f hf).2.2 nd hnd)⟩, p6⟩
        subst e
        exact Ev.bind e1 (Ev.ret fun k => by rw [if_neg (by omega), if_neg (by omega), if_neg (by omega)]; rfl)
      · have e1 := check_over g l s s0.f3 ⟨by omega, by omega, by omega, p4.1⟩ (fun h => ok ⟨h.1, h.2.1, h.2.2.1⟩)
        refine Ev.bind e1 (Ev.ret fun k => ?_)
        split
        · rfl
        · split
          · rfl
          · rw [if_pos (by omega)]; rfl
    · exact Ev.ret fun k => by rw [if_neg h0]
end Go.Proofs.Ytpbbkfekibmaiaa.Pure
