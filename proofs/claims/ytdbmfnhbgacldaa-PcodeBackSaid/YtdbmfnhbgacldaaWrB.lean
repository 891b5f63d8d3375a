/- Contracts: whole numbers read. -/
import Derived.Test.YtdbmfnhbgacldaaWrA
namespace Go.Proofs.Ytdbmfnhbgacldaa.Am
set_option autoImplicit false
set_option linter.unusedVariables false
set_option linter.unusedSimpArgs false
set_option maxRecDepth 10000
set_option pp.deepTerms false
set_option pp.deepTerms.threshold 6
set_option pp.proofs false
theorem and127 {b : Nat} (h : b < 256) : IntKind.u8.wrap ((BitVec.ofInt IntKind.u8.bits (b : Int) &&& BitVec.ofInt IntKind.u8.bits 127).toNat : Nat) = ((b % 128 : Nat) : Int) := by
  have h0 : ∀ m : Fin 256, m.val &&& 127 = m.val % 128 := by decide
  have h1 : (BitVec.ofInt 8 (b : Int)).toNat = b := by simp [BitVec.toNat_ofInt]; omega
  have h2 : (BitVec.ofInt IntKind.u8.bits (b : Int) &&& BitVec.ofInt IntKind.u8.bits 127).toNat = b &&& 127 := by
    rw [BitVec.toNat_and]
    show (BitVec.ofInt 8 (b : Int)).toNat &&& 127 = _
    rw [h1]
  rw [h2, h0 ⟨b, h⟩, u8_small (by simp; omega)]
theorem u64_small {n : Nat} (h : n < 18446744073709551616) : IntKind.u64.wrap (n : Int) = n := by
  simp [IntKind.wrap, IntKind.signed, IntKind.bits]; omega
theorem shl7 {i m : Nat} (h1 : i ≤ 4) (hm : m < 128) : IntKind.u64.wrap (IntKind.u64.wrap (m : Int) * 2 ^ min (IntKind.i64.wrap (7 * (i : Int))).toNat IntKind.u64.bits) = ((m * 128 ^ i : Nat) : Int) := by
  rw [u64_small (by omega), i64_id (by omega) (by omega)]
  have hle : 128 ^ i ≤ 268435456 := Nat.le_trans (Nat.pow_le_pow_right (n := 128) (by decide) h1) (by decide)
  have hlt : m * 128 ^ i ≤ 127 * 268435456 := Nat.mul_le_mul (by omega) hle
  rw [show min ((7 : Int) * (i : Int)).toNat IntKind.u64.bits = 7 * i by simp only [IntKind.bits]; omega]
  rw [show (m : Int) * 2 ^ (7 * i) = ((m * 128 ^ i : Nat) : Int) by
    rw [show (128 : Nat) ^ i = 2 ^ (7 * i) by rw [Nat.pow_mul]]
    simp]
  exact u64_small (by omega)
theorem orAdd {i acc m : Nat} (h1 : i ≤ 4) (h3 : acc < 128 ^ i) (hm : m < 128) : IntKind.u64.wrap ((BitVec.ofInt IntKind.u64.bits (acc : Int) ||| BitVec.ofInt IntKind.u64.bits ((m * 128 ^ i : Nat) : Int)).toNat : Nat) = ((acc + m * 128 ^ i : Nat) : Int) := by
  have hp : 128 ^ i = 2 ^ (7 * i) := by rw [Nat.pow_mul]
  have hle : 128 ^ i ≤ 268435456 := Nat.le_trans (Nat.pow_le_pow_right (n := 128) (by decide) h1) (by decide)
  have hlt : m * 128 ^ i ≤ 127 * 268435456 := Nat.mul_le_mul (by omega) hle
  have e1 : ∀ n : Nat, n < 18446744073709551616 → (BitVec.ofInt 64 (n : Int)).toNat = n := fun n hn => by simp [BitVec.toNat_ofInt]; omega
  have h2 : (BitVec.ofInt IntKind.u64.bits (acc : Int) ||| BitVec.ofInt IntKind.u64.bits ((m * 128 ^ i : Nat) : Int)).toNat = acc + m * 128 ^ i := by
    rw [BitVec.toNat_or]
    show (BitVec.ofInt 64 (acc : Int)).toNat ||| (BitVec.ofInt 64 ((m * 128 ^ i : Nat) : Int)).toNat = _
    rw [e1 _ (by omega), e1 _ (by omega), hp, Nat.or_comm, Nat.mul_comm m, ← Nat.two_pow_add_eq_or_of_lt (by rw [← hp]; exact h3) m, Nat.add_comm]
  rw [h2, u64_small (by omega)]
theorem u32_small {n : Nat} (h : n < 4294967296) : IntKind.u32.wrap (n : Int) = n := by
  simp [IntKind.wrap, IntKind.signed, IntKind.bits]; omega
theorem retV {i acc b : Nat} (h1 : i ≤ 4) (h3 : acc < 128 ^ i) (hb : b < 128) (hn : ¬ (i = 4 ∧ 15 < b)) : IntKind.u32.wrap (IntKind.u64.wrap ((BitVec.ofInt IntKind.u64.bits (acc : Int) ||| BitVec.ofInt IntKind.u64.bits ((b % 128 * 128 ^ i : Nat) : Int)).toNat : Nat)) = ((acc + b * 128 ^ i : Nat) : Int) := by
  rw [orAdd h1 h3 (by omega), Nat.mod_eq_of_lt hb]
  have : acc + b * 128 ^ i < 4294967296 := by
    have : i = 0 ∨ i = 1 ∨ i = 2 ∨ i = 3 ∨ i = 4 := by omega
    rcases this with rfl | rfl | rfl | rfl | rfl <;> simp at h3 ⊢ <;> omega
  exact u32_small this
theorem stepV {i acc b : Nat} (h3 : acc < 128 ^ i) : acc + b % 128 * 128 ^ i < 128 ^ (i + 1) := by
  have : b % 128 * 128 ^ i ≤ 127 * 128 ^ i := Nat.mul_le_mul_right _ (by omega)
  rw [Nat.pow_succ]
  omega
/-- a whole number out of bytes: which, of how many, or what is wrong -/
def getV : Nat → Nat → List Nat → Nat × Nat × Nat
  | _, _, [] => (0, 0, 2)
  | i, acc, b :: rest => if i = 4 ∧ 15 < b then (0, 0, 4) else if b < 128 then (if b = 0 ∧ 0 < i then (0, 0, 3) else (acc + b * 128 ^ i, i + 1, 0)) else getV (i + 1) (acc + (b % 128) * 128 ^ i) rest
def tupV (k : IntKind) (r : Nat × Nat × Nat) : V := .tup [.i (.int k r.1), .i (.int .i64 r.2.1), .i (.int .i64 r.2.2)]
theorem get51 (bs : List Nat) (hl : bs.length ≤ 1000000) (hb : ∀ b ∈ bs, b < 256) : CallW Try.prog G0 51 [.i (.sl (bs.map by8))] [] (fun r st' => r = tupV .u32 (getV 0 0 bs) ∧ st' = []) := by
  refine call_of_bodyF 0 (Nat.le_refl _) Try.func51 rfl (fun a w => Try.call51 a w) (wpx_ok (own := own0) _ _ _ ?_)
  repeat ((conv => whnf); first | refine Br.t ?_ | refine Br.f ?_ | refine ⟨rfl, ?_⟩)
  conv => whnf
  refine loop_ok (α := Nat × Nat) (fun x => ⟨mkS 46 [(0, .i (.sl (bs.map by8))), (5, .i (.int .u64 x.2)), (8, .i (.int .i64 x.1))], []⟩)
    (fun x => x.1 ≤ 4 ∧ x.1 ≤ bs.length ∧ x.2 < 128 ^ x.1 ∧ getV x.1 x.2 (bs.drop x.1) = getV 0 0 bs) (fun x => 5 - x.1) (0, 0) ⟨by decide, Nat.zero_le _, by decide, rfl⟩
    (Le.slots (by simp [leS, mkS])) (fun x hx => wpx_ok (own := own0) _ _ _ ?_)
  obtain ⟨i, acc⟩ := x
  obtain ⟨h1, h2, h3, h4⟩ := hx
  simp only at h1 h2 h3 h4
  dsimp only
  repeat ((conv => whnf); first | refine Br.t ?_ | refine Br.f ?_ | refine ⟨rfl, ?_⟩)
  conv => whnf
  refine Br.mk (fun h5 => ?_) (fun h5 => by simp at h5; omega)
  repeat ((conv => whnf); first | refine Br.t ?_ | refine Br.f ?_ | refine ⟨rfl, ?_⟩)
  conv => whnf
  refine Br.mk (fun h6 => ?_) (fun h6 => ?_)
  · simp at h6
    have e : bs.drop i = [] := List.drop_eq_nil_of_le h6
    rw [e] at h4
    repeat ((conv => whnf); first | refine Br.t ?_ | refine Br.f ?_ | refine ⟨rfl, ?_⟩)
    conv => whnf
    refine fin (target := []) rfl (Nat.zero_le _) (by simp) ?_ rfl
    rw [← h4]; rfl
  · simp at h6
    obtain ⟨b, hbi⟩ : ∃ b, b = bs[i] := ⟨_, rfl⟩
    have e : (bs.map by8).getD (i : Int).toNat [] = by8 b := by rw [hbi]; exact getD_enc h6
    have ed : bs.drop i = b :: bs.drop (i + 1) := by rw [hbi]; exact List.drop_eq_getElem_cons h6
    have hb' : b < 256 := hb b (hbi ▸ List.getElem_mem h6)
    rw [ed, getV] at h4
    repeat ((conv => whnf); first | refine Br.t ?_ | refine Br.f ?_ | refine ⟨rfl, ?_⟩)
    conv => whnf
    rw [e]
    refine ⟨⟨by omega, by simp; omega, rfl⟩, ?_⟩
    repeat ((conv => whnf); first | refine Br.t ?_ | refine Br.f ?_ | refine ⟨rfl, ?_⟩)
    conv => whnf
    refine Br.mk (fun h7 => ?_) (fun h7 => ?_)
    · simp at h7
      repeat ((conv => whnf); first | refine Br.t ?_ | refine Br.f ?_ | refine ⟨rfl, ?_⟩)
      conv => whnf
      refine Br.mk (fun h8 => ?_) (fun h8 => ?_)
      · simp at h8
        rw [if_pos ⟨by omega, by omega⟩] at h4
        repeat ((conv => whnf); first | refine Br.t ?_ | refine Br.f ?_ | refine ⟨rfl, ?_⟩)
        conv => whnf
        refine fin (target := []) rfl (Nat.zero_le _) (by simp) ?_ rfl
        rw [← h4]; rfl
      · simp at h8
        have hn : ¬ (i = 4 ∧ 15 < b) := by omega
        rw [if_neg hn] at h4
        repeat ((conv => whnf); first | refine Br.t ?_ | refine Br.f ?_ | refine ⟨rfl, ?_⟩)
        conv => whnf
        refine ⟨by rw [i64_id (by omega) (by omega)]; omega, ?_⟩
        rw [and127 hb', shl7 h1 (by omega)]
        repeat ((conv => whnf); first | refine Br.t ?_ | refine Br.f ?_ | refine ⟨rfl, ?_⟩)
        conv => whnf
        refine Br.mk (fun h9 => ?_) (fun h9 => ?_)
        · simp at h9
          rw [if_pos (by omega)] at h4
          repeat ((conv => whnf); first | refine Br.t ?_ | refine Br.f ?_ | refine ⟨rfl, ?_⟩)
          conv => whnf
          refine Br.mk (fun h10 => ?_) (fun h10 => ?_)
          · simp at h10
            repeat ((conv => whnf); first | refine Br.t ?_ | refine Br.f ?_ | refine ⟨rfl, ?_⟩)
            conv => whnf
            refine Br.mk (fun h11 => ?_) (fun h11 => ?_)
            · simp at h11
              rw [if_pos ⟨by omega, by omega⟩] at h4
              repeat ((conv => whnf); first | refine Br.t ?_ | refine Br.f ?_ | refine ⟨rfl, ?_⟩)
              conv => whnf
              refine fin (target := []) rfl (Nat.zero_le _) (by simp) ?_ rfl
              rw [← h4]; rfl
            · simp at h11
              rw [if_neg (by omega)] at h4
              repeat ((conv => whnf); first | refine Br.t ?_ | refine Br.f ?_ | refine ⟨rfl, ?_⟩)
              conv => whnf
              refine fin (target := []) rfl (Nat.zero_le _) (by simp) ?_ rfl
              rw [← h4, retV h1 h3 (by omega) hn, i64_id (by omega) (by omega)]
              rfl
          · simp at h10
            rw [if_neg (by omega)] at h4
            repeat ((conv => whnf); first | refine Br.t ?_ | refine Br.f ?_ | refine ⟨rfl, ?_⟩)
            conv => whnf
            refine fin (target := []) rfl (Nat.zero_le _) (by simp) ?_ rfl
            rw [← h4, retV h1 h3 (by omega) hn, i64_id (by omega) (by omega)]
            rfl
        · simp at h9
          rw [if_neg (by omega)] at h4
          repeat ((conv => whnf); first | refine Br.t ?_ | refine Br.f ?_ | refine ⟨rfl, ?_⟩)
          conv => whnf
          rw [orAdd h1 h3 (show b % 128 < 128 by omega)]
          refine ⟨(i + 1, acc + b % 128 * 128 ^ i), ⟨by simp only; omega, by simp only; omega, stepV h3, h4⟩, by simp only; omega, Le.slots ?_⟩
          simp [leS, mkS]
          exact i64_id (by omega) (by omega)
    · simp at h7
      have hn : ¬ (i = 4 ∧ 15 < b) := by omega
      rw [if_neg hn] at h4
      repeat ((conv => whnf); first | refine Br.t ?_ | refine Br.f ?_ | refine ⟨rfl, ?_⟩)
      conv => whnf
      refine ⟨by rw [i64_id (by omega) (by omega)]; omega, ?_⟩
      rw [and127 hb', shl7 h1 (by omega)]
      repeat ((conv => whnf); first | refine Br.t ?_ | refine Br.f ?_ | refine ⟨rfl, ?_⟩)
      conv => whnf
      refine Br.mk (fun h9 => ?_) (fun h9 => ?_)
      · simp at h9
        rw [if_pos (by omega)] at h4
        repeat ((conv => whnf); first | refine Br.t ?_ | refine Br.f ?_ | refine ⟨rfl, ?_⟩)
        conv => whnf
        refine Br.mk (fun h10 => ?_) (fun h10 => ?_)
        · simp at h10
          repeat ((conv => whnf); first | refine Br.t ?_ | refine Br.f ?_ | refine ⟨rfl, ?_⟩)
          conv => whnf
          refine Br.mk (fun h11 => ?_) (fun h11 => ?_)
          · simp at h11
            rw [if_pos ⟨by omega, by omega⟩] at h4
            repeat ((conv => whnf); first | refine Br.t ?_ | refine Br.f ?_ | refine ⟨rfl, ?_⟩)
            conv => whnf
            refine fin (target := []) rfl (Nat.zero_le _) (by simp) ?_ rfl
            rw [← h4]; rfl
          · simp at h11
            rw [if_neg (by omega)] at h4
            repeat ((conv => whnf); first | refine Br.t ?_ | refine Br.f ?_ | refine ⟨rfl, ?_⟩)
            conv => whnf
            refine fin (target := []) rfl (Nat.zero_le _) (by simp) ?_ rfl
            rw [← h4, retV h1 h3 (by omega) hn, i64_id (by omega) (by omega)]
            rfl
        · simp at h10
          rw [if_neg (by omega)] at h4
          repeat ((conv => whnf); first | refine Br.t ?_ | refine Br.f ?_ | refine ⟨rfl, ?_⟩)
          conv => whnf
          refine fin (target := []) rfl (Nat.zero_le _) (by simp) ?_ rfl
          rw [← h4, retV h1 h3 (by omega) hn, i64_id (by omega) (by omega)]
          rfl
      · simp at h9
        rw [if_neg (by omega)] at h4
        repeat ((conv => whnf); first | refine Br.t ?_ | refine Br.f ?_ | refine ⟨rfl, ?_⟩)
        conv => whnf
        rw [orAdd h1 h3 (show b % 128 < 128 by omega)]
        refine ⟨(i + 1, acc + b % 128 * 128 ^ i), ⟨by simp only; omega, by simp only; omega, stepV h3, h4⟩, by simp only; omega, Le.slots ?_⟩
        simp [leS, mkS]
        exact i64_id (by omega) (by omega)
end Go.Proofs.Ytdbmfnhbgacldaa.Am
