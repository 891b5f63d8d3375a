/- Programs: which nodes may be, told by package prog and by its reference alike. No condition but those of each lemma. -/
import Derived.Test.YtpbbkfekibmaiaaQx6
import Derived.Test.YtpbbkfekibmaiaaQx8
import Derived.Test.YtpbbkfekibmaiaaPl
namespace Go.Proofs.Ytpbbkfekibmaiaa.Pg
open Go.RowKit Go.Proofs.YtpbbkfekibmaiaaW.PrintWords Go.Proofs.YtpbbkfekibmaiaaW.PrintLast Go.Proofs.YtpbbkfekibmaiaaW.PrintMore Go.Proofs.Ytpbbkfekibmaiaa.Q Go.Proofs.Ytpbbkfekibmaiaa.Pl
abbrev Nd := S35
theorem rdN (xs : List Nd) (i : Nat) (h : i < xs.length) : rd_T35 xs (i : Int) = xs[i] := getD_nat xs i _ h
theorem rdF (xs : List (List Nd)) (i : Nat) (h : i < xs.length) : rd_L2 xs (i : Int) = xs[i] := getD_nat xs i _ h
/-- From 0 to below m. -/
def inr (x m : Int) : Prop := 0 ≤ x ∧ x < m
instance (x m : Int) : Decidable (inr x m) := inferInstanceAs (Decidable (0 ≤ x ∧ x < m))
theorem mx1 (x : Int) : (x ≤ 1 → mx x 1 = 1) ∧ (1 ≤ x → mx x 1 = x) ∧ 1 ≤ mx x 1 := by unfold mx; split <;> omega
/-- Which nodes may be, by kind. -/
def okN (g l s nf sz : Int) (n : Nd) : Prop :=
  (n.f0 = 0 ∧ inr n.f1 1 ∧ inr n.f2 (mx sz 1) ∧ inr n.f3 1) ∨
  ((n.f0 = 1 ∨ n.f0 = 2) ∧ inr n.f1 g ∧ inr n.f2 (mx sz 1) ∧ inr n.f3 1) ∨
  ((n.f0 = 3 ∨ n.f0 = 4) ∧ inr n.f1 l ∧ inr n.f2 (mx sz 1) ∧ inr n.f3 1) ∨
  (n.f0 = 5 ∧ inr n.f1 nf ∧ inr n.f2 (mx sz 1) ∧ inr n.f3 s) ∨
  (n.f0 = 6 ∧ inr n.f1 s ∧ inr n.f2 (mx sz 1) ∧ inr n.f3 1) ∨
  (n.f0 = 7 ∧ inr n.f1 nf ∧ inr n.f2 (mx sz 1) ∧ inr n.f3 1) ∨
  (n.f0 = 8 ∧ inr n.f1 1 ∧ inr n.f2 (mx sz 1) ∧ inr n.f3 (mx sz 1)) ∨
  (n.f0 = 9 ∧ inr n.f1 1 ∧ inr n.f2 1 ∧ inr n.f3 1)
instance (g l s nf sz : Int) (n : Nd) : Decidable (okN g l s nf sz n) := by unfold okN; infer_instance
def fld (g l s nf sz k : Int) : Int × Int × Int × Bool :=
  if k = 0 then (0, sz, 0, true) else if k = 1 ∨ k = 2 then (g, sz, 0, decide (g > 0)) else if k = 3 ∨ k = 4 then (l, sz, 0, decide (l > 0)) else
  if k = 5 then (nf, sz, s, decide (s > 0 ∧ nf > 0)) else if k = 6 then (s, sz, 0, decide (s > 0)) else if k = 7 then (nf, sz, 0, decide (nf > 0)) else if k = 8 then (0, sz, sz, true) else if k = 9 then (0, 0, 0, true) else (0, 0, 0, false)
theorem fields_ev (g l s : Int) (fs : List (List Nd)) (k sz : Int) : Ev (fun n => prog_fields.f n g l s fs k sz) (fld g l s (fs.length : Int) sz k) := by
  by_cases h0 : k = 0
  · subst h0; exact Ev.ret fun n => by simp [prog_fields.f, fld]
  refine Ev.congr (f := fun n => prog_fields.j0 n sz (fs.length : Int) k (decide (k = 1 ∨ k = 2)) g l s fs) (fun n => ?_) ?_
  · unfold prog_fields.f
    rw [if_neg h0]
    by_cases h1 : k = 1
    · subst h1; rfl
    · rw [if_neg h1]
      congr 1
      by_cases h2 : k = 2
      · subst h2; rfl
      · rw [decide_eq_false (by omega)]; simpa using h2
  by_cases h12 : k = 1 ∨ k = 2
  · refine Ev.one (Ev.ret fun n => rfl) fun n => ?_
    rw [prog_fields.j0, decide_eq_true h12, if_pos rfl, fld, if_neg h0, if_pos h12]
  refine Ev.one (f := fun n => prog_fields.j1 n sz (fs.length : Int) k (decide (k = 3 ∨ k = 4)) g l s fs) ?_ fun n => ?_
  · by_cases h34 : k = 3 ∨ k = 4
    · refine Ev.one (Ev.ret fun n => rfl) fun n => ?_
      rw [prog_fields.j1, decide_eq_true h34, if_pos rfl, fld, if_neg h0, if_neg h12, if_pos h34]
    · refine Ev.one (Ev.ret fun n => rfl) fun n => ?_
      rw [prog_fields.j1, decide_eq_false h34, if_neg (by decide), fld, if_neg h0, if_neg h12, if_neg h34]
      by_cases h5 : k = 5
      · rw [if_pos h5, if_pos h5]
        by_cases hs : s > 0
        · rw [if_pos hs]; simp [hs]
        · rw [if_neg hs]; simp [hs]
      rw [if_neg h5, if_neg h5]
      by_cases h6 : k = 6
      · rw [if_pos h6, if_pos h6]
      rw [if_neg h6, if_neg h6]
      by_cases h7 : k = 7
      · rw [if_pos h7, if_pos h7]
      rw [if_neg h7, if_neg h7]
      by_cases h8 : k = 8
      · rw [if_pos h8, if_pos h8]
      rw [if_neg h8, if_neg h8]
      by_cases h9 : k = 9
      · rw [if_pos h9, if_pos h9]
      rw [if_neg h9, if_neg h9]
  · rw [prog_fields.j0, decide_eq_false h12, if_neg (by decide)]
    by_cases h3 : k = 3
    · subst h3; rfl
    · rw [if_neg h3]
      congr 1
      by_cases h4 : k = 4
      · subst h4; rfl
      · rw [decide_eq_false (by omega)]; simpa using h4
theorem within_eq (x m : Int) : prog_within.f x m = some (decide (inr x m)) := by
  unfold prog_within.f inr
  by_cases h : x ≥ 0
  · rw [if_pos h]; simp [h]
  · rw [if_neg h]; simp [h]
theorem fld_ok (g l s nf sz : Int) (n : Nd) : ((fld g l s nf sz n.f0).2.2.2 = true ∧ inr n.f1 (mx (fld g l s nf sz n.f0).1 1) ∧ inr n.f2 (mx (fld g l s nf sz n.f0).2.1 1) ∧ inr n.f3 (mx (fld g l s nf sz n.f0).2.2.1 1)) ↔ okN g l s nf sz n := by
  obtain ⟨k, a, c, d⟩ := n
  have m0 : mx 0 1 = 1 := rfl
  have mg := mx1 g
  have ml := mx1 l
  have ms := mx1 s
  have mf := mx1 nf
  have mz := mx1 sz
  by_cases hk : 0 ≤ k ∧ k ≤ 9
  · have h10 : k = 0 ∨ k = 1 ∨ k = 2 ∨ k = 3 ∨ k = 4 ∨ k = 5 ∨ k = 6 ∨ k = 7 ∨ k = 8 ∨ k = 9 := by omega
    rcases h10 with rfl | rfl | rfl | rfl | rfl | rfl | rfl | rfl | rfl | rfl <;> simp [fld, okN, m0, inr] <;> omega
  · have e : fld g l s nf sz k = (0, 0, 0, false) := by
      unfold fld
      rw [if_neg (by omega), if_neg (by omega), if_neg (by omega), if_neg (by omega), if_neg (by omega), if_neg (by omega), if_neg (by omega), if_neg (by omega)]
    rw [e]
    constructor
    · rintro ⟨h, _⟩; cases h
    · intro h
      unfold okN at h
      simp only at h
      rcases h with h | h | h | h | h | h | h | h <;> have := h.1 <;> omega
theorem may_ev (g l s : Int) (fs : List (List Nd)) (n : Nd) (sz : Int) : Ev (fun k => prog_May.f k g l s fs n.f0 n.f1 n.f2 n.f3 sz) (decide (okN g l s (fs.length : Int) sz n)) := by
  refine Ev.bind (fields_ev g l s fs n.f0 sz) (Ev.ret fun k => ?_)
  rw [within_eq, within_eq, within_eq]
  simp only [Option.bind_some]
  have hiff := fld_ok g l s (fs.length : Int) sz n
  by_cases h0 : (fld g l s (fs.length : Int) sz n.f0).2.2.2 = true
  · rw [if_pos h0]
    by_cases h1 : inr n.f1 (mx (fld g l s (fs.length : Int) sz n.f0).1 1)
    · rw [if_pos (decide_eq_true h1)]
      by_cases h2 : inr n.f2 (mx (fld g l s (fs.length : Int) sz n.f0).2.1 1)
      · rw [if_pos (decide_eq_true h2)]
        by_cases h3 : inr n.f3 (mx (fld g l s (fs.length : Int) sz n.f0).2.2.1 1)
        · rw [decide_eq_true h3, decide_eq_true (hiff.1 ⟨h0, h1, h2, h3⟩)]
        · rw [decide_eq_false h3, decide_eq_false fun h => h3 (hiff.2 h).2.2.2]
      · rw [if_neg (by simpa using h2), decide_eq_false fun h => h2 (hiff.2 h).2.2.1]
    · rw [if_neg (by simpa using h1), decide_eq_false fun h => h1 (hiff.2 h).2.1]
  · rw [if_neg h0, decide_eq_false fun h => h0 (hiff.2 h).1]
/-! The reference -/
def lim (g l s nf sz b : Int) : Int := if b = 103 then g else if b = 108 then l else if b = 115 then s else if b = 102 then nf else if b = 110 then mx sz 1 else 1
theorem rsize (g l s : Int) (fs : List (List Nd)) (b sz : Int) : alibiref05_size.f g l s fs b sz = some (lim g l s (fs.length : Int) sz b) := by
  unfold alibiref05_size.f lim
  repeat' first | rfl | split
theorem rmay_step (g l s sz : Int) (fs : List (List Nd)) (r : ByteArray) (xs : List Int) (i : Nat) (hr : r.size = 3) (hx : xs.length = 3) (hi : i < 3) (b : Bool) (hn : Ev (fun k => alibiref05_May.l0 k sz r xs ((i + 1 : Nat) : Int) g l s fs) b) :
    Ev (fun k => alibiref05_May.l0 k sz r xs (i : Int) g l s fs) (decide (inr (rd xs (i : Int)) (lim g l s (fs.length : Int) sz (bt r (i : Int)))) && b) := by
  rw [← w64_succ i 3 hi (by omega)] at hn
  by_cases h : inr (rd xs (i : Int)) (lim g l s (fs.length : Int) sz (bt r (i : Int)))
  · rw [decide_eq_true h, Bool.true_and]
    unfold inr at h
    refine Ev.one hn fun k => ?_
    rw [alibiref05_May.l0, if_pos (by omega), if_pos (by omega), if_pos (by omega), rsize, Option.bind_some, if_pos (by omega), if_neg (by omega), if_neg (by omega)]
  · rw [decide_eq_false h, Bool.false_and]
    unfold inr at h
    refine Ev.one (Ev.now false) fun k => ?_
    rw [alibiref05_May.l0, if_pos (by omega), if_pos (by omega), if_pos (by omega), rsize, Option.bind_some, if_pos (by omega)]
    by_cases h0 : rd xs (i : Int) < 0
    · rw [if_pos h0]
    · rw [if_neg h0, if_pos (by omega)]
theorem rmay_row (g l s sz : Int) (fs : List (List Nd)) (r : ByteArray) (a c d : Int) (hr : r.size = 3) :
    Ev (fun k => alibiref05_May.l0 k sz r [a, c, d] 0 g l s fs) (decide (inr a (lim g l s (fs.length : Int) sz (bt r 0)) ∧ inr c (lim g l s (fs.length : Int) sz (bt r 1)) ∧ inr d (lim g l s (fs.length : Int) sz (bt r 2)))) := by
  have h3 : Ev (fun k => alibiref05_May.l0 k sz r [a, c, d] ((3 : Nat) : Int) g l s fs) true := Ev.one (Ev.now true) fun k => by rw [alibiref05_May.l0, if_neg (by omega)]
  have h := rmay_step g l s sz fs r [a, c, d] 0 hr rfl (by omega) _ (rmay_step g l s sz fs r [a, c, d] 1 hr rfl (by omega) _ (rmay_step g l s sz fs r [a, c, d] 2 hr rfl (by omega) _ h3))
  refine Ev.to h ?_
  rw [Bool.and_true, ← Bool.decide_and, ← Bool.decide_and]
  rfl
theorem rmay_ev (g l s : Int) (fs : List (List Nd)) (n : Nd) (sz : Int) : Ev (fun k => alibiref05_May.f k g l s fs n.f0 n.f1 n.f2 n.f3 sz) (decide (okN g l s (fs.length : Int) sz n)) := by
  obtain ⟨k, a, c, d⟩ := n
  have row : ∀ (r : ByteArray), alibiref05_Row.f k = some r → r.size = 3 → ¬ r.toList = [] → (inr a (lim g l s (fs.length : Int) sz (bt r 0)) ∧ inr c (lim g l s (fs.length : Int) sz (bt r 1)) ∧ inr d (lim g l s (fs.length : Int) sz (bt r 2)) ↔ okN g l s (fs.length : Int) sz ⟨k, a, c, d⟩) →
      Ev (fun n => alibiref05_May.f n g l s fs k a c d sz) (decide (okN g l s (fs.length : Int) sz ⟨k, a, c, d⟩)) := by
    intro r hr h3 hne hiff
    refine Ev.congr (f := fun n => alibiref05_May.l0 n sz r [a, c, d] 0 g l s fs) (fun n => ?_) (Ev.to (rmay_row g l s sz fs r a c d h3) (decide_eq_decide.2 hiff))
    rw [alibiref05_May.f, hr, Option.bind_some, if_neg hne]
  by_cases hk : 0 ≤ k ∧ k ≤ 9
  · have h10 : k = 0 ∨ k = 1 ∨ k = 2 ∨ k = 3 ∨ k = 4 ∨ k = 5 ∨ k = 6 ∨ k = 7 ∨ k = 8 ∨ k = 9 := by omega
    rcases h10 with rfl | rfl | rfl | rfl | rfl | rfl | rfl | rfl | rfl | rfl
    · exact row ⟨#[45, 110, 45]⟩ rfl rfl (by decide +kernel) (by show inr a 1 ∧ inr c (mx sz 1) ∧ inr d 1 ↔ _; unfold okN; simp)
    · exact row ⟨#[103, 110, 45]⟩ rfl rfl (by decide +kernel) (by show inr a g ∧ inr c (mx sz 1) ∧ inr d 1 ↔ _; unfold okN; simp)
    · exact row ⟨#[103, 110, 45]⟩ rfl rfl (by decide +kernel) (by show inr a g ∧ inr c (mx sz 1) ∧ inr d 1 ↔ _; unfold okN; simp)
    · exact row ⟨#[108, 110, 45]⟩ rfl rfl (by decide +kernel) (by show inr a l ∧ inr c (mx sz 1) ∧ inr d 1 ↔ _; unfold okN; simp)
    · exact row ⟨#[108, 110, 45]⟩ rfl rfl (by decide +kernel) (by show inr a l ∧ inr c (mx sz 1) ∧ inr d 1 ↔ _; unfold okN; simp)
    · exact row ⟨#[102, 110, 115]⟩ rfl rfl (by decide +kernel) (by show inr a (fs.length : Int) ∧ inr c (mx sz 1) ∧ inr d s ↔ _; unfold okN; simp)
    · exact row ⟨#[115, 110, 45]⟩ rfl rfl (by decide +kernel) (by show inr a s ∧ inr c (mx sz 1) ∧ inr d 1 ↔ _; unfold okN; simp)
    · exact row ⟨#[102, 110, 45]⟩ rfl rfl (by decide +kernel) (by show inr a (fs.length : Int) ∧ inr c (mx sz 1) ∧ inr d 1 ↔ _; unfold okN; simp)
    · exact row ⟨#[45, 110, 110]⟩ rfl rfl (by decide +kernel) (by show inr a 1 ∧ inr c (mx sz 1) ∧ inr d (mx sz 1) ↔ _; unfold okN; simp)
    · exact row ⟨#[45, 45, 45]⟩ rfl rfl (by decide +kernel) (by show inr a 1 ∧ inr c 1 ∧ inr d 1 ↔ _; unfold okN; simp)
  · have hno : ¬ okN g l s (fs.length : Int) sz ⟨k, a, c, d⟩ := by
      unfold okN
      simp only
      intro h
      rcases h with h | h | h | h | h | h | h | h <;> have := h.1 <;> omega
    rw [decide_eq_false hno]
    refine Ev.ret fun n => ?_
    have hr : alibiref05_Row.f k = some ⟨#[]⟩ := by
      unfold alibiref05_Row.f
      by_cases h0 : k < 0
      · rw [if_pos h0]
      · rw [if_neg h0, if_pos (by omega)]
    rw [alibiref05_May.f, hr, Option.bind_some, if_pos (by decide +kernel)]
end Go.Proofs.Ytpbbkfekibmaiaa.Pg
