/- Sets of ids as masks, in plain numbers: bits, lowest bits, lists of bits, sums of powers. -/
import Derived.Test.YtpbbkfekibmaiaaDoorThA
import Derived.Shelf.Spec.TrailingZeros
import Derived.Laws.BitsLemmas
namespace Go.Proofs.YtpbbkfekibmaiaaDoor.Am
set_option autoImplicit false
theorem wraps32 (n : Int) (h0 : 0 ≤ n) (h1 : n < 2 ^ 32) : IntKind.u32.wrap n = n := by rw [IntKind.wrap_u32]; omega
theorem bv32 {n : Nat} (h : n < 4294967296) : (BitVec.ofInt IntKind.u32.bits (n : Int)).toNat = n := by
  show (BitVec.ofInt 32 (n : Int)).toNat = n
  simp; omega
theorem and32 {a b : Nat} (ha : a < 4294967296) (hb : b < 4294967296) : IntKind.u32.wrap ((BitVec.ofInt IntKind.u32.bits (a : Int) &&& BitVec.ofInt IntKind.u32.bits (b : Int)).toNat : Nat) = ((a &&& b : Nat) : Int) := by
  rw [BitVec.toNat_and, bv32 ha, bv32 hb]
  have hx : a &&& b < 2 ^ 32 := Nat.and_lt_two_pow _ (by omega)
  exact wraps32 _ (by omega) (by omega)
theorem or32 {a b : Nat} (ha : a < 4294967296) (hb : b < 4294967296) : IntKind.u32.wrap ((BitVec.ofInt IntKind.u32.bits (a : Int) ||| BitVec.ofInt IntKind.u32.bits (b : Int)).toNat : Nat) = ((a ||| b : Nat) : Int) := by
  rw [BitVec.toNat_or, bv32 ha, bv32 hb]
  have hx : a ||| b < 2 ^ 32 := Nat.or_lt_two_pow (by omega) (by omega)
  exact wraps32 _ (by omega) (by omega)
/-- What is in a and not in b. -/
def less (a b : Nat) : Nat := a ^^^ (a &&& b)
theorem testBit_less (a b i : Nat) : (less a b).testBit i = (a.testBit i && !b.testBit i) := by
  unfold less
  rw [Nat.testBit_xor, Nat.testBit_and]
  cases a.testBit i <;> cases b.testBit i <;> rfl
theorem lt32 {n : Nat} (h : ∀ i, 32 ≤ i → n.testBit i = false) : n < 4294967296 := Nat.lt_pow_two_of_testBit (n := 32) n (fun i hi => h i hi)
theorem tb32 {n i : Nat} (h : n < 4294967296) (hi : 32 ≤ i) : n.testBit i = false :=
  Nat.testBit_lt_two_pow (Nat.lt_of_lt_of_le h (Nat.pow_le_pow_right (n := 2) (i := 32) (by decide) hi))
theorem eq32 {a b : Nat} (ha : a < 4294967296) (hb : b < 4294967296) (h : ∀ i, i < 32 → a.testBit i = b.testBit i) : a = b := by
  apply Nat.eq_of_testBit_eq
  intro i
  rcases Nat.lt_or_ge i 32 with hi | hi
  · exact h i hi
  · rw [tb32 ha hi, tb32 hb hi]
theorem less_lt {a b : Nat} (ha : a < 4294967296) : less a b < 4294967296 := lt32 fun i hi => by rw [testBit_less, tb32 ha hi]; rfl
theorem or_lt {a b : Nat} (ha : a < 4294967296) (hb : b < 4294967296) : a ||| b < 4294967296 := lt32 fun i hi => by rw [Nat.testBit_or, tb32 ha hi, tb32 hb hi]; rfl
theorem and_lt {a b : Nat} (ha : a < 4294967296) : a &&& b < 4294967296 := lt32 fun i hi => by rw [Nat.testBit_and, tb32 ha hi]; rfl
theorem less_zero {a b : Nat} : less a b = 0 ↔ ∀ i, a.testBit i = true → b.testBit i = true := by
  constructor
  · intro h i hi
    have := testBit_less a b i
    rw [h, Nat.zero_testBit, hi] at this
    cases hb : b.testBit i
    · rw [hb] at this; cases this
    · rfl
  · intro h
    apply Nat.eq_of_testBit_eq
    intro i
    rw [testBit_less, Nat.zero_testBit]
    cases ha : a.testBit i
    · rfl
    · rw [h i ha]; rfl
/-- The ids of a mask, rising. -/
def ids (m : Nat) : List Nat := (List.range 32).filter fun i => m.testBit i
theorem mem_ids {m i : Nat} : i ∈ ids m ↔ i < 32 ∧ m.testBit i = true := by simp [ids]
theorem ids_zero : ids 0 = [] := by simp [ids]
theorem ids_length (m : Nat) : (ids m).length ≤ 32 := by
  have := List.length_filter_le (fun i => m.testBit i) (List.range 32)
  rw [List.length_range] at this
  exact this
theorem filter_first (p : Nat → Bool) (n k : Nat) (hk : k < n) (hp : p k = true) (hl : ∀ i, i < k → p i = false) :
    (List.range n).filter p = k :: (List.range n).filter (fun i => p i && decide (i ≠ k)) := by
  obtain ⟨d, rfl⟩ : ∃ d, n = (k + 1) + d := ⟨n - (k + 1), by omega⟩
  rw [List.range_add, List.range_succ]
  simp only [List.filter_append]
  have e0 : (List.range k).filter p = [] := List.filter_eq_nil_iff.2 fun i hi => by rw [hl i (List.mem_range.1 hi)]; decide
  have e1 : (List.range k).filter (fun i => p i && decide (i ≠ k)) = [] := List.filter_eq_nil_iff.2 fun i hi => by rw [hl i (List.mem_range.1 hi)]; simp
  rw [e0, e1]
  have e2 : [k].filter p = [k] := by simp [hp]
  have e3 : [k].filter (fun i => p i && decide (i ≠ k)) = [] := by simp
  rw [e2, e3]
  have e4 : (((List.range d).map fun x => k + 1 + x).filter fun i => p i && decide (i ≠ k)) = ((List.range d).map fun x => k + 1 + x).filter p := by
    apply List.filter_congr
    intro x hx
    obtain ⟨y, _, rfl⟩ := List.mem_map.1 hx
    rw [decide_eq_true (by omega), Bool.and_true]
  rw [e4]
  rfl
/-- The lowest bit. -/
theorem ctz_spec {m : Nat} (h0 : m ≠ 0) (h : m < 4294967296) : Lib.ctz 32 m < 32 ∧ m.testBit (Lib.ctz 32 m) = true ∧ ∀ i, i < Lib.ctz 32 m → m.testBit i = false := by
  obtain ⟨q, hq, hk⟩ := Lib.ctzFrom_spec 32 m (by omega) h
  have e : Lib.ctz 32 m = Lib.ctzFrom 32 m := by simp [Lib.ctz, h0]
  rw [e]
  clear e
  generalize Lib.ctzFrom 32 m = k at *
  refine ⟨hk, ?_, fun i hi => ?_⟩
  · rw [hq, Nat.testBit_two_pow_mul]
    simp
  · rw [hq, Nat.testBit_two_pow_mul]
    simp
    omega
theorem pred_bit {m k : Nat} (hk : m.testBit k = true) (hl : ∀ i, i < k → m.testBit i = false) (i : Nat) : (m &&& (m - 1)).testBit i = (m.testBit i && decide (i ≠ k)) := by
  have hd : m % 2 ^ k = 0 := by
    apply Nat.eq_of_testBit_eq
    intro j
    rw [Nat.testBit_mod_two_pow, Nat.zero_testBit]
    by_cases hj : j < k
    · rw [hl j hj]; simp
    · simp [hj]
  obtain ⟨q, hq⟩ := Nat.dvd_of_mod_eq_zero hd
  have hodd : q % 2 = 1 := by
    rw [hq, Nat.testBit_two_pow_mul] at hk
    simp at hk
    exact hk
  have hp : 0 < 2 ^ k := Nat.two_pow_pos k
  obtain ⟨r, rfl⟩ : ∃ r, q = 2 * r + 1 := ⟨q / 2, by omega⟩
  have e1 : m - 1 = 2 ^ k * (2 * r) + (2 ^ k - 1) := by rw [hq, Nat.mul_add]; omega
  rw [Nat.testBit_and, e1, Nat.testBit_two_pow_mul_add _ (by omega)]
  rcases Nat.lt_trichotomy i k with h | h | h
  · rw [hl i h]; rfl
  · subst h
    simp
  · rw [if_neg (by omega), decide_eq_true (by omega), Bool.and_true]
    have : m.testBit i = (2 * r).testBit (i - k) := by
      rw [hq, Nat.testBit_two_pow_mul, decide_eq_true (by omega), Bool.true_and]
      obtain ⟨j, hj⟩ : ∃ j, i - k = j + 1 := ⟨i - k - 1, by omega⟩
      rw [hj, Nat.testBit_succ, Nat.testBit_succ]
      congr 1
      omega
    rw [this, Bool.and_self]
theorem ids_cons {m : Nat} (h0 : m ≠ 0) (h : m < 4294967296) : ids m = Lib.ctz 32 m :: ids (m &&& (m - 1)) := by
  obtain ⟨h1, h2, h3⟩ := ctz_spec h0 h
  unfold ids
  rw [filter_first _ 32 _ h1 h2 h3]
  congr 1
  exact List.filter_congr fun i _ => (pred_bit h2 h3 i).symm
theorem filter_two {α : Type} (l : List α) (p q : α → Bool) : (l.filter p).length + (l.filter q).length = (l.filter fun x => p x || q x).length + (l.filter fun x => p x && q x).length := by
  induction l with
  | nil => rfl
  | cons x l ih =>
    simp only [List.filter_cons]
    cases p x <;> cases q x <;> simp <;> omega
theorem ids_or_and (a b : Nat) : (ids a).length + (ids b).length = (ids (a ||| b)).length + (ids (a &&& b)).length := by
  unfold ids
  rw [filter_two]
  congr 2
  · exact List.filter_congr fun i _ => (Nat.testBit_or a b i).symm
  · exact List.filter_congr fun i _ => (Nat.testBit_and a b i).symm
/-- Sums of powers of two. -/
def pows (l : List Nat) : Nat := (l.map fun i => 2 ^ i).sum
theorem pows_snoc (l : List Nat) (i : Nat) : pows (l ++ [i]) = pows l + 2 ^ i := by simp [pows]
theorem snoc_ind {α : Type} {P : List α → Prop} (h0 : P []) (h1 : ∀ l x, P l → P (l ++ [x])) (l : List α) : P l := by
  rw [← List.reverse_reverse l]
  induction l.reverse with
  | nil => exact h0
  | cons x r ih => rw [List.reverse_cons]; exact h1 _ _ ih
/-- Ids that rise, all below n: the sum is below 2^n, and has just these bits. -/
theorem pows_rising (l : List Nat) : ∀ n : Nat, l.Pairwise (· < ·) → (∀ i ∈ l, i < n) → pows l < 2 ^ n ∧ ∀ i, (pows l).testBit i = decide (i ∈ l) := by
  refine snoc_ind (P := fun l => ∀ n : Nat, l.Pairwise (· < ·) → (∀ i ∈ l, i < n) → pows l < 2 ^ n ∧ ∀ i, (pows l).testBit i = decide (i ∈ l)) ?_ ?_ l
  · intro n _ _
    exact ⟨Nat.two_pow_pos n, fun i => by simp [pows]⟩
  · intro l x ih n hp hn
    rw [List.pairwise_append] at hp
    obtain ⟨hp1, _, hp2⟩ := hp
    have hx := hn x (by simp)
    obtain ⟨h1, h2⟩ := ih x hp1 (fun i hi => hp2 i hi x (by simp))
    rw [pows_snoc, ← Nat.or_two_pow_eq_add_of_lt h1]
    refine ⟨Nat.or_lt_two_pow (Nat.lt_of_lt_of_le h1 (Nat.pow_le_pow_right (by decide) (by omega))) (Nat.pow_lt_pow_right (by decide) hx), fun i => ?_⟩
    rw [Nat.testBit_or, h2, Nat.testBit_two_pow]
    simp only [List.mem_append, List.mem_singleton, Bool.decide_or]
    congr 1
    exact decide_eq_decide.2 ⟨fun h => h.symm, fun h => h.symm⟩
theorem rising_filter (p : Nat → Bool) (n : Nat) : ((List.range n).filter p).Pairwise (· < ·) := List.Pairwise.filter p List.pairwise_lt_range
theorem ids_rising (m : Nat) : (ids m).Pairwise (· < ·) := rising_filter _ 32
/-- The ids of a mask sum up to the mask. -/
theorem pows_ids {m : Nat} (h : m < 4294967296) : pows (ids m) = m := by
  obtain ⟨h1, h2⟩ := pows_rising (ids m) 32 (ids_rising m) (fun i hi => (mem_ids.1 hi).1)
  refine eq32 h1 h fun i hi => ?_
  rw [h2]
  cases hb : m.testBit i
  · exact decide_eq_false fun hm => by rw [(mem_ids.1 hm).2] at hb; cases hb
  · exact decide_eq_true (mem_ids.2 ⟨hi, hb⟩)
theorem pows_lt {l : List Nat} (hp : l.Pairwise (· < ·)) (hn : ∀ i ∈ l, i < 32) : pows l < 4294967296 := (pows_rising l 32 hp hn).1
/-- A rising list of ids is the list of its own mask. -/
theorem ids_pows {l : List Nat} (hp : l.Pairwise (· < ·)) (hn : ∀ i ∈ l, i < 32) : ids (pows l) = l := by
  obtain ⟨_, h2⟩ := pows_rising l 32 hp hn
  refine List.Perm.eq_of_pairwise (le := (· < ·)) (fun a b _ _ h h' => absurd h (by omega)) (ids_rising _) hp ?_
  refine (List.perm_ext_iff_of_nodup ((ids_rising _).imp (fun h => Nat.ne_of_lt h)) (hp.imp (fun h => Nat.ne_of_lt h))).2 fun i => ?_
  rw [mem_ids, h2]
  constructor
  · rintro ⟨_, h⟩; exact of_decide_eq_true h
  · intro h; exact ⟨hn i h, decide_eq_true h⟩
theorem pows_range (n : Nat) : pows (List.range n) = 2 ^ n - 1 := by
  induction n with
  | zero => rfl
  | succ n ih =>
    have := Nat.two_pow_pos n
    rw [List.range_succ, pows_snoc, ih, Nat.pow_succ]
    omega
theorem pow32 {i : Nat} (h : i < 32) : 2 ^ i < 4294967296 := Nat.pow_lt_pow_right (m := i) (n := 32) (by decide) h
theorem pow33 {i : Nat} (h : i ≤ 32) : 2 ^ i ≤ 4294967296 := Nat.pow_le_pow_right (n := 2) (i := i) (j := 32) (by decide) h
theorem ids_pow {i : Nat} (h : i < 32) : ids (2 ^ i) = [i] := by
  have := ids_pows (l := [i]) (by simp) (by simpa using h)
  simpa [pows] using this
end Go.Proofs.YtpbbkfekibmaiaaDoor.Am
