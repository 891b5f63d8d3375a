/- Which nodes may be, told by package prog. No condition but those of each lemma. -/
import Derived.Test.YtpbbkfekibmaiaaQx2
import Derived.Test.YtpbbkfekibmaiaaPgN
namespace Go.Proofs.Ytpbbkfekibmaiaa.Pg
open Go.RowKit Go.Proofs.YtpbbkfekibmaiaaW.PrintWords Go.Proofs.YtpbbkfekibmaiaaW.PrintLast Go.Proofs.YtpbbkfekibmaiaaW.PrintMore Go.Proofs.Ytpbbkfekibmaiaa.Q Go.Proofs.Ytpbbkfekibmaiaa.Pl
/-- From 0 to below m. -/
def inr (x m : Int) : Prop := 0 ≤ x ∧ x < m
instance (x m : Int) : Decidable (inr x m) := inferInstanceAs (Decidable (0 ≤ x ∧ x < m))
theorem mx1 (x : Int) : (x ≤ 1 → mx x 1 = 1) ∧ (1 ≤ x → mx x 1 = x) ∧ 1 ≤ mx x 1 := by unfold mx; split <;> omega
/-- Which nodes may be, by kind. -/
def okN (g l s nf sz : Int) (n : Nd) : Prop :=
  (n.f0 = 0 ∧ inr n.f1 1 ∧ inr n.f2 (mx sz 1) ∧ inr n.f3 1) ∨
  ((n.f0 = 1 ∨ n.f0 = 2) ∧ inr n.f1 g ∧ inr n.f2 (mx sz 1) ∧ inr n.f3 1) ∨
  ((n.f0 = 3 ∨ n.f0 = 4) ∧ inr n.f1 l ∧ inr n.f2 (mx sz 1) ∧ inr n.f3 1) ∨
  (n.f0 = 5 ∧ inr n.f1 nf ∧ inr n.f2 (mx sz 1) ∧ inr n.f3 s) ∨
  (n.f0 = 6 ∧ inr n.f1 s ∧ inr n.f2 (mx sz 1) ∧ inr n.f3 1) ∨
  (n.f0 = 7 ∧ inr n.f1 nf ∧ inr n.f2 (mx sz 1) ∧ inr n.f3 1) ∨
  (n.f0 = 8 ∧ inr n.f1 1 ∧ inr n.f2 (mx sz 1) ∧ inr n.f3 (mx sz 1)) ∨
  (n.f0 = 9 ∧ inr n.f1 1 ∧ inr n.f2 1 ∧ inr n.f3 1)
instance (g l s nf sz : Int) (n : Nd) : Decidable (okN g l s nf sz n) := by unfold okN; infer_instance
def fld (g l s nf sz k : Int) : Int × Int × Int × Bool :=
  if k = 0 then (0, sz, 0, true) else if k = 1 ∨ k = 2 then (g, sz, 0, decide (g > 0)) else if k = 3 ∨ k = 4 then (l, sz, 0, decide (l > 0)) else
  if k = 5 then (nf, sz, s, decide (s > 0 ∧ nf > 0)) else if k = 6 then (s, sz, 0, decide (s > 0)) else if k = 7 then (nf, sz, 0, decide (nf > 0)) else if k = 8 then (0, sz, sz, true) else if k = 9 then (0, 0, 0, true) else (0, 0, 0, false)
theorem fields_ev (g l s : Int) (fs : List (List Nd)) (k sz : Int) : Ev (fun n => prog_fields.f n g l s fs k sz) (fld g l s (fs.length : Int) sz k) := by
  by_cases h0 : k = 0
  · subst h0; exact Ev.ret fun n => by simp [prog_fields.f, fld]
  refine Ev.congr (f := fun n => prog_fields.j0 n sz (fs.length : Int) k (decide (k = 1 ∨ k = 2)) g l s fs) (fun n => ?_) ?_
  · unfold prog_fields.f
    rw [if_neg h0]
    by_cases h1 : k = 1
    · subst h1; rfl
    · rw [if_neg h1]
      congr 1
      by_cases h2 : k = 2
      · subst h2; rfl
      · rw [decide_eq_false (by omega)]; simpa using h2
  by_cases h12 : k = 1 ∨ k = 2
  · refine Ev.one (Ev.ret fun n => rfl) fun n => ?_
    rw [prog_fields.j0, decide_eq_true h12, if_pos rfl, fld, if_neg h0, if_pos h12]
  refine Ev.one (f := fun n => prog_fields.j1 n sz (fs.length : Int) k (decide (k = 3 ∨ k = 4)) g l s fs) ?_ fun n => ?_
  · by_cases h34 : k = 3 ∨ k = 4
    · refine Ev.one (Ev.ret fun n => rfl) fun n => ?_
      rw [prog_fields.j1, decide_eq_true h34, if_pos rfl, fld, if_neg h0, if_neg h12, if_pos h34]
    · refine Ev.one (Ev.ret fun n => rfl) fun n => ?_
      rw [prog_fields.j1, decide_eq_false h34, if_neg (by decide), fld, if_neg h0, if_neg h12, if_neg h34]
      by_cases h5 : k = 5
      · rw [if_pos h5, if_pos h5]
        by_cases hs : s > 0
        · rw [if_pos hs]; simp [hs]
        · rw [if_neg hs]; simp [hs]
      rw [if_neg h5, if_neg h5]
      by_cases h6 : k = 6
      · rw [if_pos h6, if_pos h6]
      rw [if_neg h6, if_neg h6]
      by_cases h7 : k = 7
      · rw [if_pos h7, if_pos h7]
      rw [if_neg h7, if_neg h7]
      by_cases h8 : k = 8
      · rw [if_pos h8, if_pos h8]
      rw [if_neg h8, if_neg h8]
      by_cases h9 : k = 9
      · rw [if_pos h9, if_pos h9]
      rw [if_neg h9, if_neg h9]
  · rw [prog_fields.j0, decide_eq_false h12, if_neg (by decide)]
    by_cases h3 : k = 3
    · subst h3; rfl
    · rw [if_neg h3]
      congr 1
      by_cases h4 : k = 4
      · subst h4; rfl
      · rw [decide_eq_false (by omega)]; simpa using h4
theorem within_eq (x m : Int) : prog_within.f x m = some (decide (inr x m)) := by
  unfold prog_within.f inr
  by_cases h : x ≥ 0
  · rw [if_pos h]; simp [h]
  · rw [if_neg h]; simp [h]
theorem fld_ok (g l s nf sz : Int) (n : Nd) : ((fld g l s nf sz n.f0).2.2.2 = true ∧ inr n.f1 (mx (fld g l s nf sz n.f0).1 1) ∧ inr n.f2 (mx (fld g l s nf sz n.f0).2.1 1) ∧ inr n.f3 (mx (fld g l s nf sz n.f0).2.2.1 1)) ↔ okN g l s nf sz n := by
  obtain ⟨k, a, c, d⟩ := n
  have m0 : mx 0 1 = 1 := rfl
  have mg := mx1 g
  have ml := mx1 l
  have ms := mx1 s
  have mf := mx1 nf
  have mz := mx1 sz
  by_cases hk : 0 ≤ k ∧ k ≤ 9
  · have h10 : k = 0 ∨ k = 1 ∨ k = 2 ∨ k = 3 ∨ k = 4 ∨ k = 5 ∨ k = 6 ∨ k = 7 ∨ k = 8 ∨ k = 9 := by omega
    rcases h10 with rfl | rfl | rfl | rfl | rfl | rfl | rfl | rfl | rfl | rfl <;> simp [fld, okN, m0, inr] <;> omega
  · have e : fld g l s nf sz k = (0, 0, 0, false) := by
      unfold fld
      rw [if_neg (by omega), if_neg (by omega), if_neg (by omega), if_neg (by omega), if_neg (by omega), if_neg (by omega), if_neg (by omega), if_neg (by omega)]
    rw [e]
    constructor
    · rintro ⟨h, _⟩; cases h
    · intro h
      unfold okN at h
      simp only at h
      rcases h with h | h | h | h | h | h | h | h <;> have := h.1 <;> omega
theorem may_ev (g l s : Int) (fs : List (List Nd)) (n : Nd) (sz : Int) : Ev (fun k => prog_May.f k g l s fs n.f0 n.f1 n.f2 n.f3 sz) (decide (okN g l s (fs.length : Int) sz n)) := by
  refine Ev.bind (fields_ev g l s fs n.f0 sz) (Ev.ret fun k => ?_)
  rw [within_eq, within_eq, within_eq]
  simp only [Option.bind_some]
  have hiff := fld_ok g l s (fs.length : Int) sz n
  by_cases h0 : (fld g l s (fs.length : Int) sz n.f0).2.2.2 = true
  · rw [if_pos h0]
    by_cases h1 : inr n.f1 (mx (fld g l s (fs.length : Int) sz n.f0).1 1)
    · rw [if_pos (decide_eq_true h1)]
      by_cases h2 : inr n.f2 (mx (fld g l s (fs.length : Int) sz n.f0).2.1 1)
      · rw [if_pos (decide_eq_true h2)]
        by_cases h3 : inr n.f3 (mx (fld g l s (fs.length : Int) sz n.f0).2.2.1 1)
        · rw [decide_eq_true h3, decide_eq_true (hiff.1 ⟨h0, h1, h2, h3⟩)]
        · rw [decide_eq_false h3, decide_eq_false fun h => h3 (hiff.2 h).2.2.2]
      · rw [if_neg (by simpa using h2), decide_eq_false fun h => h2 (hiff.2 h).2.2.1]
    · rw [if_neg (by simpa using h1), decide_eq_false fun h => h1 (hiff.2 h).2.1]
  · rw [if_neg h0, decide_eq_false fun h => h0 (hiff.2 h).1]
end Go.Proofs.Ytpbbkfekibmaiaa.Pg
