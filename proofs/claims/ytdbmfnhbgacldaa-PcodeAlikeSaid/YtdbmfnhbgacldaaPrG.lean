/- Plain laws and contracts: a program's bytes. -/
import Derived.Test.YtdbmfnhbgacldaaPrF
namespace Go.Proofs.Ytdbmfnhbgacldaa.Am
set_option autoImplicit false
set_option linter.unusedVariables false
set_option linter.unusedSimpArgs false
set_option maxRecDepth 10000
set_option pp.maxSteps 20000
set_option pp.proofs false
def fld (x : Nd) (c : Nat) : Int := if c = 1 then x.2.1 else if c = 2 then x.2.2.1 else x.2.2.2
def nodeN (x : Nd) : List Nat := putN x.1.toNat ++ (partsL x.1).flatMap fun c => putN (fld x c).toNat
def fnN (L : List Nd) : List Nat := putN L.length ++ L.flatMap nodeN
def numsP (p : Pg) : List Nat := [p.g.toNat, p.l.toNat, p.s.toNat, p.fs.length]
def alp : List Nat := [97, 108, 112, 49]
def progN (p : Pg) : List Nat := alp ++ (numsP p).flatMap putN ++ p.fs.flatMap fnN
theorem chkF_code {p : Pg} : ∀ {f : Nat} {l : List (List Nd)} {r : Int × Int × Int}, chkF p f l = some r → r.2.2 ≠ 0
  | f, [], r, h => by simp [chkF] at h
  | f, L :: l, r, h => by
    rw [chkF] at h
    split at h
    · cases h; simp
    · split at h
      · cases h; simp
      · split at h
        · cases h; simp
        · exact chkF_code h
structure PgOk (p : Pg) : Prop where
  g : 0 ≤ p.g ∧ p.g ≤ 16
  l : 0 ≤ p.l ∧ p.l ≤ 16
  s : 0 ≤ p.s ∧ p.s ≤ 8
  n : 0 < p.fs.length ∧ p.fs.length ≤ 16
  f : ∀ L ∈ p.fs, 0 < L.length ∧ L.length ≤ 64 ∧ ∀ x ∈ L, mayF p x L.length = true
  r : rndF p 0 p.fs = none
theorem chk_zero {p : Pg} (h : (chk p).2.2 = 0) : PgOk p := by
  unfold chk at h
  split at h
  · simp at h
  · rename_i h1
    split at h
    · simp at h
    · rename_i h2
      cases hc : chkF p 0 p.fs with
      | some r => rw [hc] at h; exact absurd h (chkF_code hc)
      | none =>
        rw [hc] at h
        simp only at h
        cases hr : rndF p 0 p.fs with
        | some x => rw [hr] at h; simp at h
        | none => exact ⟨by omega, by omega, by omega, by omega, chkF_none hc, hr⟩
theorem chk_ok {p : Pg} (h : PgOk p) : chk p = (0, 0, 0) := by
  have hc : chkF p 0 p.fs = none := by
    have key : ∀ (l : List (List Nd)) (f : Nat), (∀ L ∈ l, 0 < L.length ∧ L.length ≤ 64 ∧ ∀ x ∈ L, mayF p x L.length = true) → chkF p f l = none := by
      intro l
      induction l with
      | nil => intro f _; rfl
      | cons L l ih =>
        intro f hl
        obtain ⟨a, b, c⟩ := hl L (by simp)
        have hb : ∀ (m : List Nd) (i : Nat), (∀ x ∈ m, mayF p x L.length = true) → badN p L.length i m = none := by
          intro m
          induction m with
          | nil => intro i _; rfl
          | cons x m ihm =>
            intro i hm
            rw [badN, if_pos (hm x (by simp))]
            exact ihm (i + 1) (fun y hy => hm y (by simp [hy]))
        rw [chkF, if_neg (by omega), if_neg (by omega), hb L 0 c]
        exact ih (f + 1) (fun M hM => hl M (by simp [hM]))
    exact key p.fs 0 h.f
  unfold chk
  have := h.g; have := h.l; have := h.s; have := h.n
  rw [if_neg (by omega), if_neg (by omega), hc, h.r]
theorem mx1_lt {a A : Int} (h : a < mx1 A) : a < max A 1 := by
  unfold mx1 at h
  by_cases q : 1 > A
  · rw [if_pos q] at h; omega
  · rw [if_neg q] at h; omega
theorem may_node {p : Pg} {x : Nd} {z : Int} (hg : p.g ≤ 16) (hl : p.l ≤ 16) (hs : p.s ≤ 8) (hn : p.fs.length ≤ 16) (hz : z ≤ 64) (h : mayF p x z = true) :
    (0 ≤ x.1 ∧ x.1 ≤ 9) ∧ (∀ c, 0 ≤ fld x c ∧ fld x c ≤ 64) ∧ ∀ c, c = 1 ∨ c = 2 ∨ c = 3 → c ∉ partsL x.1 → fld x c = 0 := by
  obtain ⟨k, a, y, w⟩ := x
  unfold mayF fieldsF at h
  simp only at h
  have main : ∀ A B C : Int, inB a (mx1 A) = true → inB y (mx1 B) = true → inB w (mx1 C) = true → (0 ≤ a ∧ a < max A 1) ∧ (0 ≤ y ∧ y < max B 1) ∧ (0 ≤ w ∧ w < max C 1) := by
    intro A B C h1 h2 h3
    simp only [inB, Bool.and_eq_true, decide_eq_true_eq] at h1 h2 h3
    refine ⟨⟨h1.1, ?_⟩, ⟨h2.1, ?_⟩, ⟨h3.1, ?_⟩⟩
    · exact mx1_lt h1.2
    · exact mx1_lt h2.2
    · exact mx1_lt h3.2
  have fin : ∀ A B C : Int, A ≤ 64 → B ≤ 64 → C ≤ 64 → (0 ≤ k ∧ k ≤ 9) → inB a (mx1 A) = true → inB y (mx1 B) = true → inB w (mx1 C) = true → ((1 ∉ partsL k) → A ≤ 0) → ((2 ∉ partsL k) → B ≤ 0) → ((3 ∉ partsL k) → C ≤ 0) →
      (0 ≤ k ∧ k ≤ 9) ∧ (∀ c, 0 ≤ fld (k, a, y, w) c ∧ fld (k, a, y, w) c ≤ 64) ∧ ∀ c, c = 1 ∨ c = 2 ∨ c = 3 → c ∉ partsL k → fld (k, a, y, w) c = 0 := by
    intro A B C hA hB hC hk h1 h2 h3 p1 p2 p3
    obtain ⟨⟨a1, a2⟩, ⟨b1, b2⟩, c1, c2⟩ := main A B C h1 h2 h3
    refine ⟨hk, fun c => ?_, fun c hc hnot => ?_⟩
    · unfold fld
      split
      · simp only; omega
      · split <;> simp only <;> omega
    · rcases hc with rfl | rfl | rfl
      · have := p1 hnot; show a = 0; omega
      · have := p2 hnot; show y = 0; omega
      · have := p3 hnot; show w = 0; omega
  by_cases k0 : k = 0
  · subst k0
    have h : (((true && inB a (mx1 0)) && inB y (mx1 z)) && inB w (mx1 0)) = true := h
    simp only [Bool.and_eq_true] at h
    exact fin 0 z 0 (by omega) (by omega) (by omega) (by omega) h.1.1.2 h.1.2 h.2 (by first | omega | exact fun hn => absurd (by decide) hn) (by first | omega | exact fun hn => absurd (by decide) hn) (by first | omega | exact fun hn => absurd (by decide) hn)
  by_cases k1 : k = 1
  · subst k1
    have h : (((decide (p.g > 0) && inB a (mx1 p.g)) && inB y (mx1 z)) && inB w (mx1 0)) = true := h
    simp only [Bool.and_eq_true] at h
    exact fin p.g z 0 (by omega) (by omega) (by omega) (by omega) h.1.1.2 h.1.2 h.2 (by first | omega | exact fun hn => absurd (by decide) hn) (by first | omega | exact fun hn => absurd (by decide) hn) (by first | omega | exact fun hn => absurd (by decide) hn)
  by_cases k2 : k = 2
  · subst k2
    have h : (((decide (p.g > 0) && inB a (mx1 p.g)) && inB y (mx1 z)) && inB w (mx1 0)) = true := h
    simp only [Bool.and_eq_true] at h
    exact fin p.g z 0 (by omega) (by omega) (by omega) (by omega) h.1.1.2 h.1.2 h.2 (by first | omega | exact fun hn => absurd (by decide) hn) (by first | omega | exact fun hn => absurd (by decide) hn) (by first | omega | exact fun hn => absurd (by decide) hn)
  by_cases k3 : k = 3
  · subst k3
    have h : (((decide (p.l > 0) && inB a (mx1 p.l)) && inB y (mx1 z)) && inB w (mx1 0)) = true := h
    simp only [Bool.and_eq_true] at h
    exact fin p.l z 0 (by omega) (by omega) (by omega) (by omega) h.1.1.2 h.1.2 h.2 (by first | omega | exact fun hn => absurd (by decide) hn) (by first | omega | exact fun hn => absurd (by decide) hn) (by first | omega | exact fun hn => absurd (by decide) hn)
  by_cases k4 : k = 4
  · subst k4
    have h : (((decide (p.l > 0) && inB a (mx1 p.l)) && inB y (mx1 z)) && inB w (mx1 0)) = true := h
    simp only [Bool.and_eq_true] at h
    exact fin p.l z 0 (by omega) (by omega) (by omega) (by omega) h.1.1.2 h.1.2 h.2 (by first | omega | exact fun hn => absurd (by decide) hn) (by first | omega | exact fun hn => absurd (by decide) hn) (by first | omega | exact fun hn => absurd (by decide) hn)
  by_cases k5 : k = 5
  · subst k5
    have h : ((((decide (p.s > 0) && decide ((p.fs.length : Int) > 0)) && inB a (mx1 (p.fs.length : Int))) && inB y (mx1 z)) && inB w (mx1 p.s)) = true := h
    simp only [Bool.and_eq_true] at h
    exact fin (p.fs.length : Int) z p.s (by omega) (by omega) (by omega) (by omega) h.1.1.2 h.1.2 h.2 (by first | omega | exact fun hn => absurd (by decide) hn) (by first | omega | exact fun hn => absurd (by decide) hn) (by first | omega | exact fun hn => absurd (by decide) hn)
  by_cases k6 : k = 6
  · subst k6
    have h : (((decide (p.s > 0) && inB a (mx1 p.s)) && inB y (mx1 z)) && inB w (mx1 0)) = true := h
    simp only [Bool.and_eq_true] at h
    exact fin p.s z 0 (by omega) (by omega) (by omega) (by omega) h.1.1.2 h.1.2 h.2 (by first | omega | exact fun hn => absurd (by decide) hn) (by first | omega | exact fun hn => absurd (by decide) hn) (by first | omega | exact fun hn => absurd (by decide) hn)
  by_cases k7 : k = 7
  · subst k7
    have h : (((decide ((p.fs.length : Int) > 0) && inB a (mx1 (p.fs.length : Int))) && inB y (mx1 z)) && inB w (mx1 0)) = true := h
    simp only [Bool.and_eq_true] at h
    exact fin (p.fs.length : Int) z 0 (by omega) (by omega) (by omega) (by omega) h.1.1.2 h.1.2 h.2 (by first | omega | exact fun hn => absurd (by decide) hn) (by first | omega | exact fun hn => absurd (by decide) hn) (by first | omega | exact fun hn => absurd (by decide) hn)
  by_cases k8 : k = 8
  · subst k8
    have h : (((true && inB a (mx1 0)) && inB y (mx1 z)) && inB w (mx1 z)) = true := h
    simp only [Bool.and_eq_true] at h
    exact fin 0 z z (by omega) (by omega) (by omega) (by omega) h.1.1.2 h.1.2 h.2 (by first | omega | exact fun hn => absurd (by decide) hn) (by first | omega | exact fun hn => absurd (by decide) hn) (by first | omega | exact fun hn => absurd (by decide) hn)
  by_cases k9 : k = 9
  · subst k9
    have h : (((true && inB a (mx1 0)) && inB y (mx1 0)) && inB w (mx1 0)) = true := h
    simp only [Bool.and_eq_true] at h
    exact fin 0 0 0 (by omega) (by omega) (by omega) (by omega) h.1.1.2 h.1.2 h.2 (by first | omega | exact fun hn => absurd (by decide) hn) (by first | omega | exact fun hn => absurd (by decide) hn) (by first | omega | exact fun hn => absurd (by decide) hn)
  simp [k0, k1, k2, k3, k4, k5, k6, k7, k8, k9] at h
end Go.Proofs.Ytdbmfnhbgacldaa.Am
