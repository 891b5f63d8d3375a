/- The pure statement of ProgMay: a node's successors, its access and whether it may be are told alike. No condition. -/
import Derived.Test.YtpbbkfekibmaiaaQRdProgMay
import Derived.Test.YtpbbkfekibmaiaaPgR
import Derived.Test.YtpbbkfekibmaiaaPgS
import Derived.Test.YtpbbkfekibmaiaaPgW
namespace Go.Proofs.Ytpbbkfekibmaiaa.Pure
open Go.RowKit Go.Proofs.YtpbbkfekibmaiaaW.PrintWords Go.Proofs.YtpbbkfekibmaiaaW.PrintLast Go.Proofs.YtpbbkfekibmaiaaW.PrintMore Go.Proofs.Ytpbbkfekibmaiaa.Q Go.Proofs.Ytpbbkfekibmaiaa.Rd Go.Proofs.Ytpbbkfekibmaiaa.Pl Go.Proofs.Ytpbbkfekibmaiaa.Pg Go.Proofs.Ytpbbkfekibmaiaa.Q.OfProgMay

theorem same_loop (g l s : Int) (fs : List (List Nd)) (nd : Nd) (sz : Int) (xs : List Int) (hx : xs.length ≤ 2) (hacc : ∃ t, prog_Access.f nd.f0 nd.f1 nd.f2 nd.f3 = some t ∧ t.1 = nd.f1 ∧ t.2.1 = (nd.f0 == 2) ∧ (if nd.f0 = 1 then t.2.2 = true else t.2.2 = (nd.f0 == 2))) (d : Nat) :
    ∀ i : Nat, i + d = xs.length → Ev (fun k => alibilaw05_ProgMay.l0 k sz xs xs (i : Int) g l s fs nd.f0 nd.f1 nd.f2 nd.f3) true := by
  induction d with
  | zero =>
    intro i hd
    obtain ⟨t, ht, t1, t2, t3⟩ := hacc
    refine Ev.one (Ev.bind (Ev.ret fun _ => ht) (Ev.bind (may_ev g l s fs nd sz) (Ev.bind (rmay_ev g l s fs nd sz) (Ev.ret fun k => ?_)))) fun k => by rw [alibilaw05_ProgMay.l0, if_neg (by omega)]
    rw [if_pos (by rw [beq_self_eq_true]), if_pos t1, if_pos (by rw [t2, beq_self_eq_true])]
    by_cases h1 : nd.f0 = 1
    · rw [if_pos h1] at t3 ⊢; rw [t3]; rfl
    · rw [if_neg h1] at t3 ⊢; rw [t3, beq_self_eq_true]
  | succ d ih =>
    intro i hd
    have hi : i < xs.length := by omega
    have IH := ih (i + 1) (by omega)
    rw [← w64_succ i xs.length hi (by omega)] at IH
    exact Ev.one IH fun k => by rw [alibilaw05_ProgMay.l0, if_pos (by omega), if_pos (by omega), if_pos (by omega), if_pos rfl]
def succs (nd : Nd) : List Int := if nd.f0 = 9 then [] else if nd.f0 = 8 then [nd.f2, nd.f3] else [nd.f2]
theorem succ_eq (nd : Nd) : prog_Succ.f nd.f0 nd.f1 nd.f2 nd.f3 = some (succs nd) := by
  unfold prog_Succ.f succs
  split
  · rfl
  · split <;> rfl
theorem rsucc_eq (nd : Nd) : alibiref05_Succ.f nd.f0 nd.f1 nd.f2 nd.f3 = some (succs nd) := by
  unfold alibiref05_Succ.f succs
  split
  · rfl
  · split <;> rfl
theorem succs_len (nd : Nd) : (succs nd).length ≤ 2 := by
  unfold succs
  split
  · exact Nat.zero_le _
  · split
    · exact Nat.le_refl _
    · exact Nat.le_succ _
theorem ProgMay : Aim := by
  rintro s0 s1 a2 _ _ _
  refine Ev.rounds (Ev.bind awake ?_)
  obtain ⟨b, hb, hs⟩ := small_ev s0.f0 s0.f1 s0.f2 s0.f3
  refine Ev.congr (fun k => by rw [if_pos rfl]) (Ev.bind hb ?_)
  cases b with
  | false => exact Ev.one (f := fun k => (alibilaw05_awake.f k).bind fun t => some t) (Ev.bind awake (Ev.now true)) fun k => by rw [alibilaw05_ProgMay.j0, if_pos (by rfl)]
  | true =>
    have hl := same_loop s0.f0 s0.f1 s0.f2 s0.f3 s1 a2 (succs s1) (succs_len s1) (by
      unfold prog_Access.f
      by_cases h : s1.f0 = 1
      · exact ⟨_, if_pos h, rfl, rfl, by rw [if_pos h]⟩
      · exact ⟨_, if_neg h, rfl, rfl, by rw [if_neg h]⟩) (succs s1).length 0 (by omega)
    refine Ev.one (Ev.bind (Ev.ret fun _ => succ_eq s1) (Ev.bind (Ev.ret fun _ => rsucc_eq s1) ?_)) fun k => by rw [alibilaw05_ProgMay.j0, if_neg (by decide)]
    exact Ev.congr (fun k => by rw [if_pos rfl]; rfl) hl
end Go.Proofs.Ytpbbkfekibmaiaa.Pure
