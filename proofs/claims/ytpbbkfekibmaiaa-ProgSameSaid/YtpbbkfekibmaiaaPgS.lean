/- Small programs. -/
import Derived.Test.YtpbbkfekibmaiaaQx5
import Derived.Test.YtpbbkfekibmaiaaPgN
namespace Go.Proofs.Ytpbbkfekibmaiaa.Pg
open Go.RowKit Go.Proofs.YtpbbkfekibmaiaaW.PrintWords Go.Proofs.YtpbbkfekibmaiaaW.PrintLast Go.Proofs.YtpbbkfekibmaiaaW.PrintMore Go.Proofs.Ytpbbkfekibmaiaa.Q Go.Proofs.Ytpbbkfekibmaiaa.Pl
theorem small_loop (g l s : Int) (fs : List (List Nd)) (hn : fs.length ≤ 40) (d : Nat) : ∀ i : Nat, i + d = fs.length → ∃ b, Ev (fun k => alibiref05_Small.l0 k (i : Int) g l s fs) b ∧ (b = true → ∀ f ∈ fs.drop i, f.length ≤ 100) := by
  induction d with
  | zero =>
    intro i hd
    refine ⟨true, Ev.one (Ev.now _) fun k => (by rw [alibiref05_Small.l0, if_neg (by omega)]), fun _ f hf => ?_⟩
    rw [List.drop_of_length_le (by omega)] at hf
    cases hf
  | succ d ih =>
    intro i hd
    have hi : i < fs.length := by omega
    obtain ⟨b, h1, h2⟩ := ih (i + 1) (by omega)
    rw [← w64_succ i fs.length hi (by omega)] at h1
    rw [drop_cons fs i hi]
    by_cases h : (fs[i].length : Int) > 100
    · exact ⟨false, Ev.one (Ev.now _) fun k => (by rw [alibiref05_Small.l0, if_pos (by omega), if_pos (by omega), rdF fs i hi, if_pos h]), fun h => (by cases h)⟩
    · refine ⟨b, Ev.one h1 fun k => (by rw [alibiref05_Small.l0, if_pos (by omega), if_pos (by omega), rdF fs i hi, if_neg h]), fun hb f hf => ?_⟩
      rcases List.mem_cons.1 hf with rfl | hf
      · omega
      · exact h2 hb f hf
theorem small_ev (g l s : Int) (fs : List (List Nd)) : ∃ b, Ev (fun k => alibiref05_Small.f k g l s fs) b ∧ (b = true → fs.length ≤ 40 ∧ ∀ f ∈ fs, f.length ≤ 100) := by
  by_cases h : (fs.length : Int) > 40
  · exact ⟨false, Ev.ret fun k => (by rw [alibiref05_Small.f, if_pos h]), fun h => (by cases h)⟩
  · obtain ⟨b, h1, h2⟩ := small_loop g l s fs (by omega) fs.length 0 (by omega)
    exact ⟨b, Ev.congr (fun k => by rw [alibiref05_Small.f, if_neg h]; rfl) h1, fun hb => ⟨by omega, h2 hb⟩⟩
end Go.Proofs.Ytpbbkfekibmaiaa.Pg
