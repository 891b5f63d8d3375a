/- Which nodes may be, told by the reference. No condition but those of each lemma. -/
import Derived.Test.YtpbbkfekibmaiaaQx6
import Derived.Test.YtpbbkfekibmaiaaPgA
namespace Go.Proofs.Ytpbbkfekibmaiaa.Pg
open Go.RowKit Go.Proofs.YtpbbkfekibmaiaaW.PrintWords Go.Proofs.YtpbbkfekibmaiaaW.PrintLast Go.Proofs.YtpbbkfekibmaiaaW.PrintMore Go.Proofs.Ytpbbkfekibmaiaa.Q Go.Proofs.Ytpbbkfekibmaiaa.Pl
/-! The reference -/
def lim (g l s nf sz b : Int) : Int := if b = 103 then g else if b = 108 then l else if b = 115 then s else if b = 102 then nf else if b = 110 then mx sz 1 else 1
theorem rsize (g l s : Int) (fs : List (List Nd)) (b sz : Int) : alibiref05_size.f g l s fs b sz = some (lim g l s (fs.length : Int) sz b) := by
  unfold alibiref05_size.f lim
  repeat' first | rfl | split
theorem rmay_step (g l s sz : Int) (fs : List (List Nd)) (r : ByteArray) (xs : List Int) (i : Nat) (hr : r.size = 3) (hx : xs.length = 3) (hi : i < 3) (b : Bool) (hn : Ev (fun k => alibiref05_May.l0 k sz r xs ((i + 1 : Nat) : Int) g l s fs) b) :
    Ev (fun k => alibiref05_May.l0 k sz r xs (i : Int) g l s fs) (decide (inr (rd xs (i : Int)) (lim g l s (fs.length : Int) sz (bt r (i : Int)))) && b) := by
  rw [← w64_succ i 3 hi (by omega)] at hn
  by_cases h : inr (rd xs (i : Int)) (lim g l s (fs.length : Int) sz (bt r (i : Int)))
  · rw [decide_eq_true h, Bool.true_and]
    unfold inr at h
    refine Ev.one hn fun k => ?_
    rw [alibiref05_May.l0, if_pos (by omega), if_pos (by omega), if_pos (by omega), rsize, Option.bind_some, if_pos (by omega), if_neg (by omega), if_neg (by omega)]
  · rw [decide_eq_false h, Bool.false_and]
    unfold inr at h
    refine Ev.one (Ev.now false) fun k => ?_
    rw [alibiref05_May.l0, if_pos (by omega), if_pos (by omega), if_pos (by omega), rsize, Option.bind_some, if_pos (by omega)]
    by_cases h0 : rd xs (i : Int) < 0
    · rw [if_pos h0]
    · rw [if_neg h0, if_pos (by omega)]
theorem rmay_row (g l s sz : Int) (fs : List (List Nd)) (r : ByteArray) (a c d : Int) (hr : r.size = 3) :
    Ev (fun k => alibiref05_May.l0 k sz r [a, c, d] 0 g l s fs) (decide (inr a (lim g l s (fs.length : Int) sz (bt r 0)) ∧ inr c (lim g l s (fs.length : Int) sz (bt r 1)) ∧ inr d (lim g l s (fs.length : Int) sz (bt r 2)))) := by
  have h3 : Ev (fun k => alibiref05_May.l0 k sz r [a, c, d] ((3 : Nat) : Int) g l s fs) true := Ev.one (Ev.now true) fun k => by rw [alibiref05_May.l0, if_neg (by omega)]
  have h := rmay_step g l s sz fs r [a, c, d] 0 hr rfl (by omega) _ (rmay_step g l s sz fs r [a, c, d] 1 hr rfl (by omega) _ (rmay_step g l s sz fs r [a, c, d] 2 hr rfl (by omega) _ h3))
  refine Ev.to h ?_
  rw [Bool.and_true, ← Bool.decide_and, ← Bool.decide_and]
  rfl
theorem rmay_ev (g l s : Int) (fs : List (List Nd)) (n : Nd) (sz : Int) : Ev (fun k => alibiref05_May.f k g l s fs n.f0 n.f1 n.f2 n.f3 sz) (decide (okN g l s (fs.length : Int) sz n)) := by
  obtain ⟨k, a, c, d⟩ := n
  have row : ∀ (r : ByteArray), alibiref05_Row.f k = some r → r.size = 3 → ¬ r.toList = [] → (inr a (lim g l s (fs.length : Int) sz (bt r 0)) ∧ inr c (lim g l s (fs.length : Int) sz (bt r 1)) ∧ inr d (lim g l s (fs.length : Int) sz (bt r 2)) ↔ okN g l s (fs.length : Int) sz ⟨k, a, c, d⟩) →
      Ev (fun n => alibiref05_May.f n g l s fs k a c d sz) (decide (okN g l s (fs.length : Int) sz ⟨k, a, c, d⟩)) := by
    intro r hr h3 hne hiff
    refine Ev.congr (f := fun n => alibiref05_May.l0 n sz r [a, c, d] 0 g l s fs) (fun n => ?_) (Ev.to (rmay_row g l s sz fs r a c d h3) (decide_eq_decide.2 hiff))
    rw [alibiref05_May.f, hr, Option.bind_some, if_neg hne]
  by_cases hk : 0 ≤ k ∧ k ≤ 9
  · have h10 : k = 0 ∨ k = 1 ∨ k = 2 ∨ k = 3 ∨ k = 4 ∨ k = 5 ∨ k = 6 ∨ k = 7 ∨ k = 8 ∨ k = 9 := by omega
    rcases h10 with rfl | rfl | rfl | rfl | rfl | rfl | rfl | rfl | rfl | rfl
    · exact row ⟨#[45, 110, 45]⟩ rfl rfl (by decide +kernel) (by show inr a 1 ∧ inr c (mx sz 1) ∧ inr d 1 ↔ _; unfold okN; simp)
    · exact row ⟨#[103, 110, 45]⟩ rfl rfl (by decide +kernel) (by show inr a g ∧ inr c (mx sz 1) ∧ inr d 1 ↔ _; unfold okN; simp)
    · exact row ⟨#[103, 110, 45]⟩ rfl rfl (by decide +kernel) (by show inr a g ∧ inr c (mx sz 1) ∧ inr d 1 ↔ _; unfold okN; simp)
    · exact row ⟨#[108, 110, 45]⟩ rfl rfl (by decide +kernel) (by show inr a l ∧ inr c (mx sz 1) ∧ inr d 1 ↔ _; unfold okN; simp)
    · exact row ⟨#[108, 110, 45]⟩ rfl rfl (by decide +kernel) (by show inr a l ∧ inr c (mx sz 1) ∧ inr d 1 ↔ _; unfold okN; simp)
    · exact row ⟨#[102, 110, 115]⟩ rfl rfl (by decide +kernel) (by show inr a (fs.length : Int) ∧ inr c (mx sz 1) ∧ inr d s ↔ _; unfold okN; simp)
    · exact row ⟨#[115, 110, 45]⟩ rfl rfl (by decide +kernel) (by show inr a s ∧ inr c (mx sz 1) ∧ inr d 1 ↔ _; unfold okN; simp)
    · exact row ⟨#[102, 110, 45]⟩ rfl rfl (by decide +kernel) (by show inr a (fs.length : Int) ∧ inr c (mx sz 1) ∧ inr d 1 ↔ _; unfold okN; simp)
    · exact row ⟨#[45, 110, 110]⟩ rfl rfl (by decide +kernel) (by show inr a 1 ∧ inr c (mx sz 1) ∧ inr d (mx sz 1) ↔ _; unfold okN; simp)
    · exact row ⟨#[45, 45, 45]⟩ rfl rfl (by decide +kernel) (by show inr a 1 ∧ inr c 1 ∧ inr d 1 ↔ _; unfold okN; simp)
  · have hno : ¬ okN g l s (fs.length : Int) sz ⟨k, a, c, d⟩ := by
      unfold okN
      simp only
      intro h
      rcases h with h | h | h | h | h | h | h | h <;> have := h.1 <;> omega
    rw [decide_eq_false hno]
    refine Ev.ret fun n => ?_
    have hr : alibiref05_Row.f k = some ⟨#[]⟩ := by
      unfold alibiref05_Row.f
      by_cases h0 : k < 0
      · rw [if_pos h0]
      · rw [if_neg h0, if_pos (by omega)]
    rw [alibiref05_May.f, hr, Option.bind_some, if_pos (by decide +kernel)]
end Go.Proofs.Ytpbbkfekibmaiaa.Pg
