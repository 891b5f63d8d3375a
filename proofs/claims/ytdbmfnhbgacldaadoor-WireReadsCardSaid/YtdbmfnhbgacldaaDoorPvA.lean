/- Plain laws: whole numbers written are read as they were, each front is too short, and what is read is written so. -/
import Derived.Test.YtdbmfnhbgacldaaDoorWrB
namespace Go.Proofs.YtdbmfnhbgacldaaDoor.Am
set_option autoImplicit false
set_option linter.unusedVariables false
set_option linter.unusedSimpArgs false
theorem ladd (acc n i : Nat) : acc + (n % 128 + 128) % 128 * 128 ^ i + n / 128 * 128 ^ (i + 1) = acc + n * 128 ^ i := by
  rw [Nat.pow_succ]
  have h1 : (n % 128 + 128) % 128 = n % 128 := by omega
  rw [h1]
  have h2 : n * 128 ^ i = (n % 128 + 128 * (n / 128)) * 128 ^ i := by rw [Nat.mod_add_div]
  rw [h2, Nat.add_mul, ← Nat.add_assoc, Nat.mul_comm (128 ^ i) 128, Nat.mul_comm 128 (n / 128), Nat.mul_assoc]
theorem lsmall {n i : Nat} (h : n * 128 ^ i < 4294967296) : n / 128 * 128 ^ (i + 1) < 4294967296 := by
  rw [Nat.pow_succ, Nat.mul_comm (128 ^ i), ← Nat.mul_assoc]
  exact Nat.lt_of_le_of_lt (Nat.mul_le_mul_right _ (Nat.div_mul_le_self n 128)) h
theorem lfour {n i : Nat} (h : n * 128 ^ i < 4294967296) (hi : i = 4) : n < 16 := by subst hi; omega
theorem getV_put : ∀ (n i acc : Nat) (rest : List Nat), n * 128 ^ i < 4294967296 → (0 < i → 0 < n) → getV i acc (putN n ++ rest) = (acc + n * 128 ^ i, i + (putN n).length, 0) := by
  intro n
  induction n using Nat.strongRecOn with
  | ind n ih =>
    intro i acc rest h1 h2
    rw [putN]
    by_cases hn : n < 128
    · rw [dif_pos hn]
      simp only [List.cons_append, List.nil_append, getV]
      rw [if_neg (by intro h; have := lfour h1 h.1; omega), if_pos hn, if_neg (by intro h; have := h2 h.2; omega)]
      rfl
    · rw [dif_neg hn]
      simp only [List.cons_append, getV]
      rw [if_neg (by intro h; have := lfour h1 h.1; omega), if_neg (by omega), ih (n / 128) (by omega) (i + 1) _ rest (lsmall h1) (by omega), ladd]
      simp only [List.length_cons, Prod.mk.injEq, true_and, and_true]
      omega
theorem getV_cut : ∀ (n i acc k : Nat), n * 128 ^ i < 4294967296 → (0 < i → 0 < n) → k < (putN n).length → getV i acc ((putN n).take k) = (0, 0, 2) := by
  intro n
  induction n using Nat.strongRecOn with
  | ind n ih =>
    intro i acc k h1 h2 h3
    cases k with
    | zero => rfl
    | succ k =>
    rw [putN] at h3 ⊢
    by_cases hn : n < 128
    · rw [dif_pos hn] at h3
      simp at h3
    · rw [dif_neg hn] at h3 ⊢
      simp only [List.length_cons] at h3
      simp only [List.take_succ_cons, getV]
      rw [if_neg (by intro h; have := lfour h1 h.1; omega), if_neg (by omega), ih (n / 128) (by omega) (i + 1) _ k (lsmall h1) (by omega) (by omega)]
theorem getV_of : ∀ (l : List Nat) (i acc v k : Nat), (∀ b ∈ l, b < 256) → getV i acc l = (v, k, 0) → ∃ n rest, l = putN n ++ rest ∧ v = acc + n * 128 ^ i ∧ k = i + (putN n).length ∧ (0 < i → 0 < n)
  | [], i, acc, v, k, hb, h => by simp [getV] at h
  | b :: r, i, acc, v, k, hb, h => by
    rw [getV] at h
    by_cases c1 : i = 4 ∧ 15 < b
    · rw [if_pos c1] at h; simp at h
    · rw [if_neg c1] at h
      by_cases c2 : b < 128
      · rw [if_pos c2] at h
        by_cases c3 : b = 0 ∧ 0 < i
        · rw [if_pos c3] at h; simp at h
        · rw [if_neg c3] at h
          simp only [Prod.mk.injEq, and_true] at h
          refine ⟨b, r, ?_, h.1.symm, ?_, by omega⟩
          · rw [putN, dif_pos c2]; rfl
          · rw [putN, dif_pos c2]; simp only [List.length_singleton]; omega
      · rw [if_neg c2] at h
        have hb1 := hb b (by simp)
        obtain ⟨n, rest, e1, e2, e3, e4⟩ := getV_of r (i + 1) _ v k (fun x hx => hb x (by simp [hx])) h
        have hn := e4 (by omega)
        have eb : (n * 128 + b % 128) % 128 + 128 = b := by omega
        have en : (n * 128 + b % 128) / 128 = n := by omega
        have ep : putN (n * 128 + b % 128) = b :: putN n := by
          rw [putN, dif_neg (by omega), eb, en]
        refine ⟨n * 128 + b % 128, rest, ?_, ?_, ?_, by omega⟩
        · rw [ep, e1]; rfl
        · rw [e2, Nat.pow_succ, Nat.add_mul, Nat.mul_comm (128 ^ i) 128, Nat.mul_assoc]; omega
        · rw [e3, ep]; simp only [List.length_cons]; omega
end Go.Proofs.YtdbmfnhbgacldaaDoor.Am
