/- Contracts: whole numbers read, the document's. -/
import Derived.Test.YtdbmfnhbgacldaaWrB
namespace Go.Proofs.Ytdbmfnhbgacldaa.Am
set_option autoImplicit false
set_option linter.unusedVariables false
set_option linter.unusedSimpArgs false
set_option maxRecDepth 10000
set_option pp.deepTerms false
set_option pp.deepTerms.threshold 6
set_option pp.proofs false
theorem refAcc {i acc b : Nat} (h1 : i ≤ 4) (h3 : acc < 128 ^ i) : IntKind.i64.wrap ((acc : Int) + IntKind.i64.wrap (((128 ^ i : Nat) : Int) * IntKind.i64.wrap ((b : Int).tmod 128))) = ((acc + b % 128 * 128 ^ i : Nat) : Int) := by
  have hle : 128 ^ i ≤ 268435456 := Nat.le_trans (Nat.pow_le_pow_right (n := 128) (by decide) h1) (by decide)
  have hmul : b % 128 * 128 ^ i ≤ 127 * 268435456 := Nat.mul_le_mul (by omega) hle
  rw [Int.tmod_eq_emod_of_nonneg (by omega), show (b : Int) % 128 = ((b % 128 : Nat) : Int) by omega, i64_id (n := ((b % 128 : Nat) : Int)) (by omega) (by omega),
    show ((128 ^ i : Nat) : Int) * ((b % 128 : Nat) : Int) = ((b % 128 * 128 ^ i : Nat) : Int) by rw [Nat.mul_comm]; rfl, i64_id (n := ((b % 128 * 128 ^ i : Nat) : Int)) (by omega) (by omega), i64_id (by omega) (by omega)]
  rfl
theorem refBase {i : Nat} (h1 : i ≤ 4) : IntKind.i64.wrap (((128 ^ i : Nat) : Int) * 128) = ((128 ^ (i + 1) : Nat) : Int) := by
  have hle : 128 ^ i ≤ 268435456 := Nat.le_trans (Nat.pow_le_pow_right (n := 128) (by decide) h1) (by decide)
  rw [Nat.pow_succ]
  generalize 128 ^ i = k at hle
  rw [i64_id (by omega) (by omega)]
  rfl
theorem get52 (bs : List Nat) (hl : bs.length ≤ 1000000) (hb : ∀ b ∈ bs, b < 256) : CallW Try.prog G0 52 [.i (.sl (bs.map by8))] [] (fun r st' => r = tupV .i64 (getV 0 0 bs) ∧ st' = []) := by
  refine call_of_bodyF 0 (Nat.le_refl _) Try.func52 rfl (fun a w => Try.call52 a w) (wpx_ok (own := own0) _ _ _ ?_)
  repeat ((conv => whnf); first | refine Br.t ?_ | refine Br.f ?_ | refine ⟨rfl, ?_⟩)
  conv => whnf
  refine loop_ok (α := Nat × Nat) (fun x => ⟨mkS 52 [(0, .i (.sl (bs.map by8))), (5, .i (.int .i64 x.2)), (6, .i (.int .i64 (128 ^ x.1 : Nat))), (7, .i (.int .i64 x.1))], []⟩)
    (fun x => x.1 ≤ 4 ∧ x.1 ≤ bs.length ∧ x.2 < 128 ^ x.1 ∧ getV x.1 x.2 (bs.drop x.1) = getV 0 0 bs) (fun x => 5 - x.1) (0, 0) ⟨by decide, Nat.zero_le _, by decide, rfl⟩
    (Le.slots (by simp [leS, mkS])) (fun x hx => wpx_ok (own := own0) _ _ _ ?_)
  obtain ⟨i, acc⟩ := x
  obtain ⟨h1, h2, h3, h4⟩ := hx
  simp only at h1 h2 h3 h4
  dsimp only
  have hle : 128 ^ i ≤ 268435456 := Nat.le_trans (Nat.pow_le_pow_right (n := 128) (by decide) h1) (by decide)
  repeat ((conv => whnf); first | refine Br.t ?_ | refine Br.f ?_ | refine ⟨rfl, ?_⟩)
  conv => whnf
  refine Br.mk (fun h6 => ?_) (fun h6 => ?_)
  · simp at h6
    obtain ⟨b, hbi⟩ : ∃ b, b = bs[i] := ⟨_, rfl⟩
    have e : (bs.map by8).getD (i : Int).toNat [] = by8 b := by rw [hbi]; exact getD_enc h6
    have ed : bs.drop i = b :: bs.drop (i + 1) := by rw [hbi]; exact List.drop_eq_getElem_cons h6
    have hb' : b < 256 := hb b (hbi ▸ List.getElem_mem h6)
    have hmul : b % 128 * 128 ^ i ≤ 127 * 268435456 := Nat.mul_le_mul (by omega) hle
    rw [ed, getV] at h4
    repeat ((conv => whnf); first | refine Br.t ?_ | refine Br.f ?_ | refine ⟨rfl, ?_⟩)
    conv => whnf
    refine Br.mk (fun h7 => ?_) (fun h7 => ?_)
    · simp at h7
      repeat ((conv => whnf); first | refine Br.t ?_ | refine Br.f ?_ | refine ⟨rfl, ?_⟩)
      conv => whnf
      rw [e]
      refine ⟨⟨by omega, by simp; omega, rfl⟩, ?_⟩
      repeat ((conv => whnf); first | refine Br.t ?_ | refine Br.f ?_ | refine ⟨rfl, ?_⟩)
      conv => whnf
      refine Br.mk (fun h8 => ?_) (fun h8 => ?_)
      · simp at h8
        rw [if_pos ⟨by omega, by omega⟩] at h4
        repeat ((conv => whnf); first | refine Br.t ?_ | refine Br.f ?_ | refine ⟨rfl, ?_⟩)
        conv => whnf
        refine fin (target := []) rfl (Nat.zero_le _) (by simp) ?_ rfl
        rw [← h4]; rfl
      · simp at h8
        have hn : ¬ (i = 4 ∧ 15 < b) := by omega
        rw [if_neg hn] at h4
        repeat ((conv => whnf); first | refine Br.t ?_ | refine Br.f ?_ | refine ⟨rfl, ?_⟩)
        conv => whnf
        rw [e]
        refine ⟨⟨by omega, by simp; omega, rfl⟩, ?_⟩
        repeat ((conv => whnf); first | refine Br.t ?_ | refine Br.f ?_ | refine ⟨rfl, ?_⟩)
        conv => whnf
        refine ⟨by decide, ?_⟩
        repeat ((conv => whnf); first | refine Br.t ?_ | refine Br.f ?_ | refine ⟨rfl, ?_⟩)
        conv => whnf
        rw [e]
        refine ⟨⟨by omega, by simp; omega, rfl⟩, ?_⟩
        repeat ((conv => whnf); first | refine Br.t ?_ | refine Br.f ?_ | refine ⟨rfl, ?_⟩)
        conv => whnf
        refine Br.mk (fun h9 => ?_) (fun h9 => ?_)
        · simp at h9
          rw [if_pos (by omega)] at h4
          repeat ((conv => whnf); first | refine Br.t ?_ | refine Br.f ?_ | refine ⟨rfl, ?_⟩)
          conv => whnf
          refine Br.mk (fun h10 => ?_) (fun h10 => ?_)
          · simp at h10
            repeat ((conv => whnf); first | refine Br.t ?_ | refine Br.f ?_ | refine ⟨rfl, ?_⟩)
            conv => whnf
            rw [e]
            refine ⟨⟨by omega, by simp; omega, rfl⟩, ?_⟩
            repeat ((conv => whnf); first | refine Br.t ?_ | refine Br.f ?_ | refine ⟨rfl, ?_⟩)
            conv => whnf
            refine Br.mk (fun h11 => ?_) (fun h11 => ?_)
            · simp at h11
              rw [if_pos ⟨by omega, by omega⟩] at h4
              repeat ((conv => whnf); first | refine Br.t ?_ | refine Br.f ?_ | refine ⟨rfl, ?_⟩)
              conv => whnf
              refine fin (target := []) rfl (Nat.zero_le _) (by simp) ?_ rfl
              rw [← h4]; rfl
            · simp at h11
              rw [if_neg (by omega)] at h4
              repeat ((conv => whnf); first | refine Br.t ?_ | refine Br.f ?_ | refine ⟨rfl, ?_⟩)
              conv => whnf
              refine fin (target := []) rfl (Nat.zero_le _) (by simp) ?_ rfl
              rw [← h4, refAcc h1 h3, i64_id (by omega) (by omega), Nat.mod_eq_of_lt (show b < 128 by omega)]
              rfl
          · simp at h10
            rw [if_neg (by omega)] at h4
            repeat ((conv => whnf); first | refine Br.t ?_ | refine Br.f ?_ | refine ⟨rfl, ?_⟩)
            conv => whnf
            refine fin (target := []) rfl (Nat.zero_le _) (by simp) ?_ rfl
            rw [← h4, refAcc h1 h3, i64_id (by omega) (by omega), Nat.mod_eq_of_lt (show b < 128 by omega)]
            rfl
        · simp at h9
          rw [if_neg (by omega)] at h4
          repeat ((conv => whnf); first | refine Br.t ?_ | refine Br.f ?_ | refine ⟨rfl, ?_⟩)
          conv => whnf
          rw [refAcc h1 h3, refBase h1]
          refine ⟨(i + 1, acc + b % 128 * 128 ^ i), ⟨by simp only; omega, by simp only; omega, stepV h3, h4⟩, by simp only; omega, Le.slots ?_⟩
          simp [leS, mkS]
          exact i64_id (by omega) (by omega)
    · simp at h7
      have hn : ¬ (i = 4 ∧ 15 < b) := by omega
      rw [if_neg hn] at h4
      repeat ((conv => whnf); first | refine Br.t ?_ | refine Br.f ?_ | refine ⟨rfl, ?_⟩)
      conv => whnf
      rw [e]
      refine ⟨⟨by omega, by simp; omega, rfl⟩, ?_⟩
      repeat ((conv => whnf); first | refine Br.t ?_ | refine Br.f ?_ | refine ⟨rfl, ?_⟩)
      conv => whnf
      refine ⟨by decide, ?_⟩
      repeat ((conv => whnf); first | refine Br.t ?_ | refine Br.f ?_ | refine ⟨rfl, ?_⟩)
      conv => whnf
      rw [e]
      refine ⟨⟨by omega, by simp; omega, rfl⟩, ?_⟩
      repeat ((conv => whnf); first | refine Br.t ?_ | refine Br.f ?_ | refine ⟨rfl, ?_⟩)
      conv => whnf
      refine Br.mk (fun h9 => ?_) (fun h9 => ?_)
      · simp at h9
        rw [if_pos (by omega)] at h4
        repeat ((conv => whnf); first | refine Br.t ?_ | refine Br.f ?_ | refine ⟨rfl, ?_⟩)
        conv => whnf
        refine Br.mk (fun h10 => ?_) (fun h10 => ?_)
        · simp at h10
          repeat ((conv => whnf); first | refine Br.t ?_ | refine Br.f ?_ | refine ⟨rfl, ?_⟩)
          conv => whnf
          rw [e]
          refine ⟨⟨by omega, by simp; omega, rfl⟩, ?_⟩
          repeat ((conv => whnf); first | refine Br.t ?_ | refine Br.f ?_ | refine ⟨rfl, ?_⟩)
          conv => whnf
          refine Br.mk (fun h11 => ?_) (fun h11 => ?_)
          · simp at h11
            rw [if_pos ⟨by omega, by omega⟩] at h4
            repeat ((conv => whnf); first | refine Br.t ?_ | refine Br.f ?_ | refine ⟨rfl, ?_⟩)
            conv => whnf
            refine fin (target := []) rfl (Nat.zero_le _) (by simp) ?_ rfl
            rw [← h4]; rfl
          · simp at h11
            rw [if_neg (by omega)] at h4
            repeat ((conv => whnf); first | refine Br.t ?_ | refine Br.f ?_ | refine ⟨rfl, ?_⟩)
            conv => whnf
            refine fin (target := []) rfl (Nat.zero_le _) (by simp) ?_ rfl
            rw [← h4, refAcc h1 h3, i64_id (by omega) (by omega), Nat.mod_eq_of_lt (show b < 128 by omega)]
            rfl
        · simp at h10
          rw [if_neg (by omega)] at h4
          repeat ((conv => whnf); first | refine Br.t ?_ | refine Br.f ?_ | refine ⟨rfl, ?_⟩)
          conv => whnf
          refine fin (target := []) rfl (Nat.zero_le _) (by simp) ?_ rfl
          rw [← h4, refAcc h1 h3, i64_id (by omega) (by omega), Nat.mod_eq_of_lt (show b < 128 by omega)]
          rfl
      · simp at h9
        rw [if_neg (by omega)] at h4
        repeat ((conv => whnf); first | refine Br.t ?_ | refine Br.f ?_ | refine ⟨rfl, ?_⟩)
        conv => whnf
        rw [refAcc h1 h3, refBase h1]
        refine ⟨(i + 1, acc + b % 128 * 128 ^ i), ⟨by simp only; omega, by simp only; omega, stepV h3, h4⟩, by simp only; omega, Le.slots ?_⟩
        simp [leS, mkS]
        exact i64_id (by omega) (by omega)
  · simp at h6
    have e : bs.drop i = [] := List.drop_eq_nil_of_le h6
    rw [e] at h4
    repeat ((conv => whnf); first | refine Br.t ?_ | refine Br.f ?_ | refine ⟨rfl, ?_⟩)
    conv => whnf
    refine fin (target := []) rfl (Nat.zero_le _) (by simp) ?_ rfl
    rw [← h4]; rfl
end Go.Proofs.Ytdbmfnhbgacldaa.Am
