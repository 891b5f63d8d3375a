/- Plain laws: whole numbers written are read as they were, each front is too short, and what is read is written so. -/
import Derived.Test.YtdbmfnhbgacldaaWrB
import Derived.Test.YtdbmfnhbgacldaaWrE
namespace Go.Proofs.Ytdbmfnhbgacldaa.Am
set_option autoImplicit false
set_option linter.unusedVariables false
set_option linter.unusedSimpArgs false
theorem ladd (acc n i : Nat) : acc + (n % 128 + 128) % 128 * 128 ^ i + n / 128 * 128 ^ (i + 1) = acc + n * 128 ^ i := by
  rw [Nat.pow_succ]
  have h1 : (n % 128 + 128) % 128 = n % 128 := by omega
  rw [h1]
  have h2 : n * 128 ^ i = (n % 128 + 128 * (n / 128)) * 128 ^ i := by rw [Nat.mod_add_div]
  rw [h2, Nat.add_mul, ← Nat.add_assoc, Nat.mul_comm (128 ^ i) 128, Nat.mul_comm 128 (n / 128), Nat.mul_assoc]
theorem lsmall {n i : Nat} (h : n * 128 ^ i < 4294967296) : n / 128 * 128 ^ (i + 1) < 4294967296 := by
  rw [Nat.pow_succ, Nat.mul_comm (128 ^ i), ← Nat.mul_assoc]
  exact Nat.lt_of_le_of_lt (Nat.mul_le_mul_right _ (Nat.div_mul_le_self n 128)) h
theorem lfour {n i : Nat} (h : n * 128 ^ i < 4294967296) (hi : i = 4) : n < 16 := by subst hi; omega
theorem getV_put : ∀ (n i acc : Nat) (rest : List Nat), n * 128 ^ i < 4294967296 → (0 < i → 0 < n) → getV i acc (putN n ++ rest) = (acc + n * 128 ^ i, i + (putN n).length, 0) := by
  intro n
  induction n using Nat.strongRecOn with
  | ind n ih =>
    intro i acc rest h1 h2
    rw [putN]
    by_cases hn : n < 128
    · rw [dif_pos hn]
      simp only [List.cons_append, List.nil_append, getV]
      rw [if_neg (by intro h; have := lfour h1 h.1; omega), if_pos hn, if_neg (by intro h; have := h2 h.2; omega)]
      rfl
    · rw [dif_neg hn]
      simp only [List.cons_append, getV]
      rw [if_neg (by intro h; have := lfour h1 h.1; omega), if_neg (by omega), ih (n / 128) (by omega) (i + 1) _ rest (lsmall h1) (by omega), ladd]
      simp only [List.length_cons, Prod.mk.injEq, true_and, and_true]
      omega
theorem getV_cut : ∀ (n i acc k : Nat), n * 128 ^ i < 4294967296 → (0 < i → 0 < n) → k < (putN n).length → getV i acc ((putN n).take k) = (0, 0, 2) := by
  intro n
  induction n using Nat.strongRecOn with
  | ind n ih =>
    intro i acc k h1 h2 h3
    cases k with
    | zero => rfl
    | succ k =>
    rw [putN] at h3 ⊢
    by_cases hn : n < 128
    · rw [dif_pos hn] at h3
      simp at h3
    · rw [dif_neg hn] at h3 ⊢
      simp only [List.length_cons] at h3
      simp only [List.take_succ_cons, getV]
      rw [if_neg (by intro h; have := lfour h1 h.1; omega), if_neg (by omega), ih (n / 128) (by omega) (i + 1) _ k (lsmall h1) (by omega) (by omega)]
theorem getV_of : ∀ (l : List Nat) (i acc v k : Nat), (∀ b ∈ l, b < 256) → getV i acc l = (v, k, 0) → ∃ n rest, l = putN n ++ rest ∧ v = acc + n * 128 ^ i ∧ k = i + (putN n).length ∧ (0 < i → 0 < n)
  | [], i, acc, v, k, hb, h => by simp [getV] at h
  | b :: r, i, acc, v, k, hb, h => by
    rw [getV] at h
    by_cases c1 : i = 4 ∧ 15 < b
    · rw [if_pos c1] at h; simp at h
    · rw [if_neg c1] at h
      by_cases c2 : b < 128
      · rw [if_pos c2] at h
        by_cases c3 : b = 0 ∧ 0 < i
        · rw [if_pos c3] at h; simp at h
        · rw [if_neg c3] at h
          simp only [Prod.mk.injEq, and_true] at h
          refine ⟨b, r, ?_, h.1.symm, ?_, by omega⟩
          · rw [putN, dif_pos c2]; rfl
          · rw [putN, dif_pos c2]; simp only [List.length_singleton]; omega
      · rw [if_neg c2] at h
        have hb1 := hb b (by simp)
        obtain ⟨n, rest, e1, e2, e3, e4⟩ := getV_of r (i + 1) _ v k (fun x hx => hb x (by simp [hx])) h
        have hn := e4 (by omega)
        have eb : (n * 128 + b % 128) % 128 + 128 = b := by omega
        have en : (n * 128 + b % 128) / 128 = n := by omega
        have ep : putN (n * 128 + b % 128) = b :: putN n := by
          rw [putN, dif_neg (by omega), eb, en]
        refine ⟨n * 128 + b % 128, rest, ?_, ?_, ?_, by omega⟩
        · rw [ep, e1]; rfl
        · rw [e2, Nat.pow_succ, Nat.add_mul, Nat.mul_comm (128 ^ i) 128, Nat.mul_assoc]; omega
        · rw [e3, ep]; simp only [List.length_cons]; omega
end Go.Proofs.Ytdbmfnhbgacldaa.Am
namespace Go.Proofs.Ytdbmfnhbgacldaa.Am
set_option autoImplicit false
set_option linter.unusedVariables false
set_option linter.unusedSimpArgs false
theorem num_put {s : Rd} {n : Nat} {mx : Int} {rest : List Nat} (h0 : s.why = 0) (hd : s.bs.drop s.p = putN n ++ rest) (hn : n < 4294967296) (hm : (n : Int) ≤ mx) :
    s.num mx = (n, { s with p := s.p + (putN n).length }) := by
  have e : getV 0 0 (s.bs.drop s.p) = (n, (putN n).length, 0) := by
    rw [hd, getV_put n 0 0 rest (by omega) (by omega)]; simp
  unfold Rd.num
  rw [e, if_neg (by omega), if_neg (by simp), if_neg (by simp only; omega)]
theorem drop_add {α : Type} {l a b : List α} {p : Nat} (h : l.drop p = a ++ b) : l.drop (p + a.length) = b := by
  rw [← List.drop_drop, h, List.drop_left]
theorem raw_put {s : Rd} {m rest : List Nat} (h0 : s.why = 0) (hd : s.bs.drop s.p = m ++ rest) :
    s.raw m.length = (m, { s with p := s.p + m.length }) := by
  unfold Rd.raw
  have hl : s.left = m.length + rest.length := by
    have := congrArg List.length hd
    simp only [List.length_drop, List.length_append] at this
    simpa [Rd.left] using this
  rw [if_neg (by omega), if_neg (by omega), if_neg (by omega), hd]
  simp
theorem num_of {s : Rd} {mx : Int} (hok : s.ok) (h : (s.num mx).2.why = 0) : ∃ n, (s.num mx) = (n, { s with p := s.p + (putN n).length }) ∧ (n : Int) ≤ mx ∧ s.why = 0 ∧ s.bs.drop s.p = putN n ++ s.bs.drop (s.p + (putN n).length) ∧ s.p + (putN n).length ≤ s.bs.length := by
  unfold Rd.num at h ⊢
  by_cases h1 : s.why ≠ 0
  · rw [if_pos h1] at h; exact absurd h h1
  · rw [if_neg h1] at h ⊢
    by_cases h2 : (getV 0 0 (s.bs.drop s.p)).2.2 ≠ 0
    · rw [if_pos h2] at h
      simp only [Rd.fail] at h
      rw [if_pos (by omega)] at h
      exact absurd h h2
    · rw [if_neg h2] at h ⊢
      by_cases h3 : mx < ((getV 0 0 (s.bs.drop s.p)).1 : Int)
      · rw [if_pos h3] at h
        simp only [Rd.fail] at h
        rw [if_pos (by omega)] at h
        simp at h
      · rw [if_neg h3] at h ⊢
        obtain ⟨g, hg⟩ : ∃ v, v = getV 0 0 (s.bs.drop s.p) := ⟨_, rfl⟩
        rw [← hg] at h2 h3 ⊢
        obtain ⟨v, k, f⟩ := g
        simp only at h2 h3 ⊢
        have hf : f = 0 := by omega
        subst hf
        obtain ⟨n, rest, e1, e2, e3, _⟩ := getV_of (s.bs.drop s.p) 0 0 v k (fun b hb => hok.2.2 b (List.mem_of_mem_drop hb)) hg.symm
        simp at e2 e3
        subst e2 e3
        refine ⟨v, rfl, by omega, by omega, ?_, ?_⟩
        · rw [drop_add e1]; exact e1
        · have := congrArg List.length e1
          simp only [List.length_drop, List.length_append] at this
          have := hok.2.1
          omega
theorem raw_of {s : Rd} {n : Int} (hok : s.ok) (h : (s.raw n).2.why = 0) : 0 ≤ n ∧ s.why = 0 ∧ (s.raw n).1.length = n.toNat ∧ s.raw n = ((s.raw n).1, { s with p := s.p + n.toNat }) ∧ s.bs.drop s.p = (s.raw n).1 ++ s.bs.drop (s.p + n.toNat) ∧ s.p + n.toNat ≤ s.bs.length := by
  unfold Rd.raw at h ⊢
  by_cases h1 : s.why ≠ 0
  · rw [if_pos h1] at h; exact absurd h h1
  · rw [if_neg h1] at h ⊢
    by_cases h2 : n < 0
    · rw [if_pos h2] at h
      simp only [Rd.fail] at h
      rw [if_pos (by omega)] at h
      simp at h
    · rw [if_neg h2] at h ⊢
      by_cases h3 : (s.left : Int) < n
      · rw [if_pos h3] at h
        simp only [Rd.fail] at h
        rw [if_pos (by omega)] at h
        simp at h
      · rw [if_neg h3] at h ⊢
        have hl : s.left = s.bs.length - s.p := rfl
        have := hok.2.1
        refine ⟨by omega, by omega, by simp; omega, rfl, ?_, by omega⟩
        rw [← List.drop_drop, List.take_append_drop]
/-- the same reader of a front of the bytes: it goes along, or has found them too short -/
def Along (k : Nat) (s t : Rd) : Prop := t.bs = s.bs.take k ∧ ((t.why = 0 ∧ t.p = s.p ∧ s.p ≤ k) ∨ t.why = 2)
theorem getV_take {l : List Nat} {v k : Nat} (hb : ∀ b ∈ l, b < 256) (h : getV 0 0 l = (v, k, 0)) (j : Nat) : getV 0 0 (l.take j) = if k ≤ j then (v, k, 0) else (0, 0, 2) := by
  have hv : v < 4294967296 := by
    have := (getV_ok l 0 0 (by decide) (by decide)).1
    rw [h] at this; exact this
  obtain ⟨n, rest, e1, e2, e3, _⟩ := getV_of l 0 0 v k hb h
  simp at e2 e3
  subst e2 e3
  rw [e1]
  by_cases hj : (putN v).length ≤ j
  · rw [if_pos hj, List.take_append, List.take_of_length_le hj, getV_put v 0 0 _ (by omega) (by omega)]
    simp
  · rw [if_neg hj, List.take_append_of_le_length (by omega), getV_cut v 0 0 j (by omega) (by omega) (by omega)]
theorem along_num {k : Nat} {s t : Rd} (hk : k ≤ s.bs.length) (hok : s.ok) (h : Along k s t) (mx : Int) (hw : (s.num mx).2.why = 0) :
    Along k (s.num mx).2 (t.num mx).2 ∧ ((t.num mx).2.why = 0 → (t.num mx).1 = (s.num mx).1) := by
  obtain ⟨n, e, hn, h0, hd, hp⟩ := num_of hok hw
  have hn32 : n < 4294967296 := by
    have := (getV_ok (s.bs.drop s.p) 0 0 (by decide) (by decide)).1
    have hg : (s.num mx).1 = n := by rw [e]
    unfold Rd.num at hg
    split at hg
    · omega
    · split at hg
      · simp only at hg; omega
      · split at hg
        · simp only at hg; omega
        · simp only at hg; omega
  rw [e]
  obtain ⟨hb, hc⟩ := h
  rcases hc with ⟨t0, tp, hpk⟩ | t2
  · have hg : getV 0 0 (s.bs.drop s.p) = (n, (putN n).length, 0) := by
      rw [hd, getV_put n 0 0 _ (by omega) (by omega)]; simp
    have ht : getV 0 0 (t.bs.drop t.p) = if (putN n).length ≤ k - s.p then (n, (putN n).length, 0) else (0, 0, 2) := by
      rw [hb, tp, List.drop_take]
      exact getV_take (fun b hb => hok.2.2 b (List.mem_of_mem_drop hb)) hg _
    unfold Rd.num
    rw [ht, if_neg (by omega : ¬ t.why ≠ 0)]
    by_cases hj : (putN n).length ≤ k - s.p
    · simp only [if_pos hj]
      rw [if_neg (by simp), if_neg (by omega)]
      exact ⟨⟨hb, .inl ⟨t0, by simp only; omega, by simp only; omega⟩⟩, fun _ => rfl⟩
    · simp only [if_neg hj]
      rw [if_pos (by simp)]
      simp only [Rd.fail]
      rw [if_pos t0]
      exact ⟨⟨hb, .inr rfl⟩, fun h => by simp at h⟩
  · unfold Rd.num
    rw [if_pos (by omega)]
    exact ⟨⟨hb, .inr t2⟩, fun h => by simp only at h; omega⟩
theorem along_raw {k : Nat} {s t : Rd} (hk : k ≤ s.bs.length) (hok : s.ok) (h : Along k s t) (n n' : Int) (hnn : t.why = 0 → n' = n) (hw : (s.raw n).2.why = 0) :
    Along k (s.raw n).2 (t.raw n').2 ∧ ((t.raw n').2.why = 0 → (t.raw n').1 = (s.raw n).1) := by
  obtain ⟨hn, h0, hlen, e, hd, hp⟩ := raw_of hok hw
  obtain ⟨hb, hc⟩ := h
  have e1 : (s.raw n).1 = (s.bs.drop s.p).take n.toNat := by rw [hd, ← hlen, List.take_left]
  rw [e, e1]
  rcases hc with ⟨t0, tp, hpk⟩ | t2
  · rw [hnn t0]
    unfold Rd.raw
    have hl : t.left = k - s.p := by simp [Rd.left, hb, tp]; omega
    rw [if_neg (by omega), if_neg (by omega)]
    by_cases hj : n.toNat ≤ k - s.p
    · rw [if_neg (by omega)]
      refine ⟨⟨hb, .inl ⟨t0, by simp only; omega, by simp only; omega⟩⟩, fun _ => ?_⟩
      simp only
      rw [hb, tp, List.drop_take, List.take_take, Nat.min_eq_left hj]
    · rw [if_pos (by omega)]
      simp only [Rd.fail]
      rw [if_pos t0]
      exact ⟨⟨hb, .inr rfl⟩, fun h => by simp at h⟩
  · unfold Rd.raw
    rw [if_pos (by omega)]
    exact ⟨⟨hb, .inr t2⟩, fun h => by simp only at h; omega⟩
theorem along_end {k : Nat} {s t : Rd} (hk : k < s.bs.length) (h : Along k s t) (he : s.p = s.bs.length) : t.why = 2 ∧ t.done.why = 2 := by
  rcases h.2 with ⟨_, _, h3⟩ | h2
  · omega
  · refine ⟨h2, ?_⟩
    unfold Rd.done
    rw [if_neg (by omega)]; exact h2
end Go.Proofs.Ytdbmfnhbgacldaa.Am
