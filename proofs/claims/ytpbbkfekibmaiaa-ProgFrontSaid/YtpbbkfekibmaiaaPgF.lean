/- Small programs and the watch of law 05. No condition. -/
import Derived.Test.YtpbbkfekibmaiaaQx5
import Derived.Test.YtpbbkfekibmaiaaPgE
import Derived.KernelRfl
namespace Go.Proofs.Ytpbbkfekibmaiaa.Pg
open Go.RowKit Go.Proofs.YtpbbkfekibmaiaaW.PrintWords Go.Proofs.YtpbbkfekibmaiaaW.PrintLast Go.Proofs.YtpbbkfekibmaiaaW.PrintMore Go.Proofs.Ytpbbkfekibmaiaa.Q Go.Proofs.Ytpbbkfekibmaiaa.Pl
theorem small_loop (g l s : Int) (fs : List (List Nd)) (hn : fs.length ≤ 40) (d : Nat) : ∀ i : Nat, i + d = fs.length → ∃ b, Ev (fun k => alibiref05_Small.l0 k (i : Int) g l s fs) b ∧ (b = true → ∀ f ∈ fs.drop i, f.length ≤ 100) := by
  induction d with
  | zero =>
    intro i hd
    refine ⟨true, Ev.one (Ev.now _) fun k => (by rw [alibiref05_Small.l0, if_neg (by omega)]), fun _ f hf => ?_⟩
    rw [List.drop_of_length_le (by omega)] at hf
    cases hf
  | succ d ih =>
    intro i hd
    have hi : i < fs.length := by omega
    obtain ⟨b, h1, h2⟩ := ih (i + 1) (by omega)
    rw [← w64_succ i fs.length hi (by omega)] at h1
    rw [drop_cons fs i hi]
    by_cases h : (fs[i].length : Int) > 100
    · exact ⟨false, Ev.one (Ev.now _) fun k => (by rw [alibiref05_Small.l0, if_pos (by omega), if_pos (by omega), rdF fs i hi, if_pos h]), fun h => (by cases h)⟩
    · refine ⟨b, Ev.one h1 fun k => (by rw [alibiref05_Small.l0, if_pos (by omega), if_pos (by omega), rdF fs i hi, if_neg h]), fun hb f hf => ?_⟩
      rcases List.mem_cons.1 hf with rfl | hf
      · omega
      · exact h2 hb f hf
theorem small_ev (g l s : Int) (fs : List (List Nd)) : ∃ b, Ev (fun k => alibiref05_Small.f k g l s fs) b ∧ (b = true → fs.length ≤ 40 ∧ ∀ f ∈ fs, f.length ≤ 100) := by
  by_cases h : (fs.length : Int) > 40
  · exact ⟨false, Ev.ret fun k => (by rw [alibiref05_Small.f, if_pos h]), fun h => (by cases h)⟩
  · obtain ⟨b, h1, h2⟩ := small_loop g l s fs (by omega) fs.length 0 (by omega)
    exact ⟨b, Ev.congr (fun k => by rw [alibiref05_Small.f, if_neg h]; rfl) h1, fun hb => ⟨by omega, h2 hb⟩⟩
theorem check_nine : Ev (fun k => prog_Check.f k 0 0 0 (([(([(⟨9, 0, 0, 0⟩ : Nd)] : List (Nd)))] : List (List (Nd))))) (0, 0, 0) := by
  refine ⟨40, fun k hk => ?_⟩
  obtain ⟨j, rfl⟩ := Nat.exists_eq_add_of_le hk
  rw [Nat.add_comm]
  kernel_rfl
theorem check_seven : Ev (fun k => prog_Check.f k 0 0 0 (([(([(⟨7, 0, 0, 0⟩ : Nd)] : List (Nd)))] : List (List (Nd))))) (0, 0, 8) := by
  refine ⟨40, fun k hk => ?_⟩
  obtain ⟨j, rfl⟩ := Nat.exists_eq_add_of_le hk
  rw [Nat.add_comm]
  kernel_rfl
theorem awake : Ev (fun k => alibilaw05_awake.f k) true := by
  refine Ev.bind check_nine (Ev.bind check_seven (Ev.ret fun k => ?_))
  rw [if_pos rfl, if_pos rfl, if_pos rfl]; rfl
/-- Too many of anything: the code is 4. -/
theorem check_over (g l s : Int) (fs : List (List Nd)) (h1 : 0 ≤ g ∧ 0 ≤ l ∧ 0 ≤ s ∧ 0 < fs.length) (h2 : ¬ (g ≤ 16 ∧ l ≤ 16 ∧ s ≤ 8 ∧ fs.length ≤ 16)) : Ev (fun k => prog_Check.f k g l s fs) (-1, -1, 4) := by
  have hne : ((fs.length : Int) == 0) = false := by rw [beq_eq_false_iff_ne]; omega
  have j1 : Ev (fun k => prog_Check.j1 k true g l s fs) (-1, -1, 4) := Ev.one (Ev.now _) fun k => by rw [prog_Check.j1, if_pos rfl]
  have j0 : Ev (fun k => prog_Check.j0 k false g l s fs) (-1, -1, 4) := Ev.one j1 fun k => by
    rw [prog_Check.j0, if_neg Bool.false_ne_true]
    split
    · rfl
    · split
      · rfl
      · split
        · rfl
        · rw [decide_eq_true (by omega)]
  exact Ev.congr (fun k => by rw [prog_Check.f, if_neg (by omega), if_neg (by omega), if_neg (by omega), hne]) j0
end Go.Proofs.Ytpbbkfekibmaiaa.Pg
