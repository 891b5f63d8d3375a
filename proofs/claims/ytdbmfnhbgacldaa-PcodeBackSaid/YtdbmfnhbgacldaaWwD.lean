/- Contracts: a witness's bytes. -/
import Derived.Test.YtdbmfnhbgacldaaWwC
import Derived.Test.YtdbmfnhbgacldaaAmV
namespace Go.Proofs.Ytdbmfnhbgacldaa.Am
set_option autoImplicit false
set_option linter.unusedVariables false
set_option linter.unusedSimpArgs false
set_option maxRecDepth 10000
set_option pp.deepTerms false
set_option pp.deepTerms.threshold 6
set_option pp.proofs false
theorem within29 (n l : Int) : CallW Try.prog G0 29 [.i (.int .i64 n), .i (.int .i64 l)] [] (fun r st' => r = .i (.bool (decide (0 ≤ n) && decide (n < l))) ∧ st' = []) := by
  refine call_of_bodyF 0 (Nat.le_refl _) Try.func29 rfl (fun a w => Try.call29 a w) (wpx_ok (own := own0) _ _ _ ?_)
  conv => whnf
  refine Br.mk (fun h => ?_) (fun h => ?_)
  · simp at h
    repeat ((conv => whnf); first | refine Br.t ?_ | refine Br.f ?_ | refine ⟨rfl, ?_⟩)
    conv => whnf
    refine fin (target := []) rfl (Nat.zero_le _) (by simp) ?_ rfl
    simp [h]
  · simp at h
    repeat ((conv => whnf); first | refine Br.t ?_ | refine Br.f ?_ | refine ⟨rfl, ?_⟩)
    conv => whnf
    refine fin (target := []) rfl (Nat.zero_le _) (by simp) ?_ rfl
    rw [decide_eq_false (by omega : ¬ 0 ≤ n)]; rfl
def okW (a b c : Int) : Bool := (decide (0 ≤ a) && decide (a < 8)) && (decide (0 ≤ b) && decide (b < 8)) && (decide (0 ≤ c) && decide (c < 16)) && !decide (a = b)
def codeW (xs : List (Int × Bool)) (a b c : Int) : Int := if codeS xs = 0 then (if okW a b c then 0 else 1) else codeS xs
def encW (xs : List (Int × Bool)) (a b c : Int) : List I := [.sl (xs.map encP), .int .i64 a, .int .i64 b, .int .i64 c]
theorem check13 (xs : List (Int × Bool)) (a b c : Int) (hx : xs.length ≤ 1000000) : CallW Try.prog G0 13 [.agg ((encW xs a b c).map .i)] [] (fun r st' => r = .i (.int .i64 (codeW xs a b c)) ∧ st' = []) := by
  refine call_of_bodyF 0 (Nat.le_refl _) Try.func13 rfl (fun a w => Try.call13 a w) (wpx_ok (own := own0) _ _ _ ?_)
  repeat ((conv => whnf); first | refine Br.t ?_ | refine Br.f ?_ | refine ⟨rfl, ?_⟩)
  conv => whnf
  refine ((put25 xs hx).pure _ rfl rfl).mono ?_
  rintro r st' ⟨rfl, rfl⟩
  repeat ((conv => whnf); first | refine Br.t ?_ | refine Br.f ?_ | refine ⟨rfl, ?_⟩)
  conv => whnf
  refine Br.mk (fun h => ?_) (fun h => ?_)
  · simp at h
    repeat ((conv => whnf); first | refine Br.t ?_ | refine Br.f ?_ | refine ⟨rfl, ?_⟩)
    conv => whnf
    refine fin (target := []) rfl (Nat.zero_le _) (by simp) ?_ rfl
    simp [codeW, h]
  · simp at h
    repeat ((conv => whnf); first | refine Br.t ?_ | refine Br.f ?_ | refine ⟨rfl, ?_⟩)
    conv => whnf
    refine ((within29 a 8).pure _ rfl rfl).mono ?_
    rintro r st' ⟨rfl, rfl⟩
    repeat ((conv => whnf); first | refine Br.t ?_ | refine Br.f ?_ | refine ⟨rfl, ?_⟩)
    conv => whnf
    refine Br.mk (fun h1 => ?_) (fun h1 => ?_)
    · repeat ((conv => whnf); first | refine Br.t ?_ | refine Br.f ?_ | refine ⟨rfl, ?_⟩)
      conv => whnf
      refine fin (target := []) rfl (Nat.zero_le _) (by simp) ?_ rfl
      have ho : okW a b c = false := by simp only [okW]; simp at *; omega
      simp [codeW, h, ho]
    · repeat ((conv => whnf); first | refine Br.t ?_ | refine Br.f ?_ | refine ⟨rfl, ?_⟩)
      conv => whnf
      refine ((within29 b 8).pure _ rfl rfl).mono ?_
      rintro r st' ⟨rfl, rfl⟩
      repeat ((conv => whnf); first | refine Br.t ?_ | refine Br.f ?_ | refine ⟨rfl, ?_⟩)
      conv => whnf
      refine Br.mk (fun h2 => ?_) (fun h2 => ?_)
      · repeat ((conv => whnf); first | refine Br.t ?_ | refine Br.f ?_ | refine ⟨rfl, ?_⟩)
        conv => whnf
        refine fin (target := []) rfl (Nat.zero_le _) (by simp) ?_ rfl
        have ho : okW a b c = false := by simp only [okW]; simp at *; omega
        simp [codeW, h, ho]
      · repeat ((conv => whnf); first | refine Br.t ?_ | refine Br.f ?_ | refine ⟨rfl, ?_⟩)
        conv => whnf
        refine ((within29 c 16).pure _ rfl rfl).mono ?_
        rintro r st' ⟨rfl, rfl⟩
        repeat ((conv => whnf); first | refine Br.t ?_ | refine Br.f ?_ | refine ⟨rfl, ?_⟩)
        conv => whnf
        refine Br.mk (fun h3 => ?_) (fun h3 => ?_)
        · repeat ((conv => whnf); first | refine Br.t ?_ | refine Br.f ?_ | refine ⟨rfl, ?_⟩)
          conv => whnf
          refine fin (target := []) rfl (Nat.zero_le _) (by simp) ?_ rfl
          have ho : okW a b c = false := by simp only [okW]; simp at *; omega
          simp [codeW, h, ho]
        · repeat ((conv => whnf); first | refine Br.t ?_ | refine Br.f ?_ | refine ⟨rfl, ?_⟩)
          conv => whnf
          refine Br.mk (fun h4 => ?_) (fun h4 => ?_)
          · repeat ((conv => whnf); first | refine Br.t ?_ | refine Br.f ?_ | refine ⟨rfl, ?_⟩)
            conv => whnf
            refine fin (target := []) rfl (Nat.zero_le _) (by simp) ?_ rfl
            have ho : okW a b c = false := by simp only [okW]; simp at *; omega
            simp [codeW, h, ho]
          · repeat ((conv => whnf); first | refine Br.t ?_ | refine Br.f ?_ | refine ⟨rfl, ?_⟩)
            conv => whnf
            refine fin (target := []) rfl (Nat.zero_le _) (by simp) ?_ rfl
            have ho : okW a b c = true := by simp only [okW]; simp at h1 h2 h3 h4 ⊢; omega
            simp [codeW, h, ho]
end Go.Proofs.Ytdbmfnhbgacldaa.Am
