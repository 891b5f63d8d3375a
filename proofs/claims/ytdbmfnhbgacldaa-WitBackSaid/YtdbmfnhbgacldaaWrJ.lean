/- Contracts: witnesses compared. -/
import Derived.Test.YtdbmfnhbgacldaaWrI
namespace Go.Proofs.Ytdbmfnhbgacldaa.Am
set_option autoImplicit false
set_option linter.unusedVariables false
set_option linter.unusedSimpArgs false
set_option maxRecDepth 10000
set_option pp.deepTerms false
set_option pp.deepTerms.threshold 6
set_option pp.proofs false
def sameW (u v : Wt) : Bool := decide (u.a = v.a) && decide (u.b = v.b) && decide (u.c = v.c) && decide (u.xs = v.xs)
theorem same21 (u v : Wt) (hu : u.xs.length ≤ 1000000) (hv : v.xs.length ≤ 1000000) : CallW Try.prog G0 21 [wtV u, wtV v] [] (fun r st' => r = .i (.bool (sameW u v)) ∧ st' = []) := by
  refine call_of_bodyF 0 (Nat.le_refl _) Try.func21 rfl (fun a w => Try.call21 a w) (wpx_ok (own := own0) _ _ _ ?_)
  obtain ⟨xs, a, b, c⟩ := u
  obtain ⟨ys, a', b', c'⟩ := v
  simp only at hu hv
  repeat ((conv => whnf); first | refine Br.t ?_ | refine Br.f ?_ | refine ⟨rfl, ?_⟩)
  conv => whnf
  refine Br.mk (fun h1 => ?_) (fun h1 => ?_)
  · have h1 : a ≠ a' := by simpa using h1
    repeat ((conv => whnf); first | refine Br.t ?_ | refine Br.f ?_ | refine ⟨rfl, ?_⟩)
    conv => whnf
    refine fin (target := []) rfl (Nat.zero_le _) (by simp) ?_ rfl
    simp [sameW, h1]
  · have h1 : a = a' := by simpa using h1
    repeat ((conv => whnf); first | refine Br.t ?_ | refine Br.f ?_ | refine ⟨rfl, ?_⟩)
    conv => whnf
    refine Br.mk (fun h2 => ?_) (fun h2 => ?_)
    · have h2 : b ≠ b' := by simpa using h2
      repeat ((conv => whnf); first | refine Br.t ?_ | refine Br.f ?_ | refine ⟨rfl, ?_⟩)
      conv => whnf
      refine fin (target := []) rfl (Nat.zero_le _) (by simp) ?_ rfl
      simp [sameW, h2]
    · have h2 : b = b' := by simpa using h2
      repeat ((conv => whnf); first | refine Br.t ?_ | refine Br.f ?_ | refine ⟨rfl, ?_⟩)
      conv => whnf
      refine Br.mk (fun h3 => ?_) (fun h3 => ?_)
      · have h3 : c ≠ c' := by simpa using h3
        repeat ((conv => whnf); first | refine Br.t ?_ | refine Br.f ?_ | refine ⟨rfl, ?_⟩)
        conv => whnf
        refine fin (target := []) rfl (Nat.zero_le _) (by simp) ?_ rfl
        simp [sameW, h3]
      · have h3 : c = c' := by simpa using h3
        repeat ((conv => whnf); first | refine Br.t ?_ | refine Br.f ?_ | refine ⟨rfl, ?_⟩)
        conv => whnf
        refine Br.mk (fun h4 => ?_) (fun h4 => ?_)
        · have h4 : xs.length ≠ ys.length := by simp at h4; omega
          have h5 : xs ≠ ys := fun e => h4 (by rw [e])
          repeat ((conv => whnf); first | refine Br.t ?_ | refine Br.f ?_ | refine ⟨rfl, ?_⟩)
          conv => whnf
          refine fin (target := []) rfl (Nat.zero_le _) (by simp) ?_ rfl
          simp [sameW, h5]
        · have h4 : xs.length = ys.length := by simp at h4; omega
          repeat ((conv => whnf); first | refine Br.t ?_ | refine Br.f ?_ | refine ⟨rfl, ?_⟩)
          conv => whnf
          refine loop_ok (α := Nat) (fun i => ⟨mkS 52 [(2, .ptr 0 0 0 0), (3, .ptr 1 0 0 0), (5, .i (.int .i64 i))], [row0 xs a b c, row0 ys a' b' c']⟩) (fun i => i ≤ xs.length ∧ xs.take i = ys.take i) (fun i => xs.length - i) 0 ⟨Nat.zero_le _, rfl⟩
            (Le.slots (by simp [leS, mkS])) (fun i hi => wpx_ok (own := own0) _ _ _ ?_)
          obtain ⟨k1, k2⟩ := hi
          repeat ((conv => whnf); first | refine Br.t ?_ | refine Br.f ?_ | refine ⟨rfl, ?_⟩)
          conv => whnf
          refine Br.mk (fun h6 => ?_) (fun h6 => ?_)
          · simp at h6
            obtain ⟨x, hx⟩ : ∃ x, x = xs[i] := ⟨_, rfl⟩
            obtain ⟨y, hy⟩ : ∃ y, y = ys[i]'(by omega) := ⟨_, rfl⟩
            have ex : (xs.map encP).getD (i : Int).toNat [] = encP x := by rw [hx]; exact getD_enc h6
            have ey : (ys.map encP).getD (i : Int).toNat [] = encP y := by rw [hy]; exact getD_enc (by omega)
            repeat ((conv => whnf); first | refine Br.t ?_ | refine Br.f ?_ | refine ⟨rfl, ?_⟩)
            conv => whnf
            refine draw_ok (own := own0) [] [] [] rfl (by kernel_rfl) (Nat.zero_le _) ?_
            repeat ((conv => whnf); first | refine Br.t ?_ | refine Br.f ?_ | refine ⟨rfl, ?_⟩)
            conv => whnf
            rw [ex]
            refine ⟨⟨by omega, by simp; omega, rfl⟩, ?_⟩
            repeat ((conv => whnf); first | refine Br.t ?_ | refine Br.f ?_ | refine ⟨rfl, ?_⟩)
            conv => whnf
            rw [ey]
            refine ⟨⟨by omega, by simp; omega, rfl⟩, ?_⟩
            repeat ((conv => whnf); first | refine Br.t ?_ | refine Br.f ?_ | refine ⟨rfl, ?_⟩)
            conv => whnf
            refine ⟨by kernel_rfl, ?_⟩
            repeat ((conv => whnf); first | refine Br.t ?_ | refine Br.f ?_ | refine ⟨rfl, ?_⟩)
            conv => whnf
            refine ⟨by repeat ((conv => whnf); first | exact trivial | refine ⟨rfl, ?_⟩), trivial, ?_⟩
            conv => whnf
            have ext : xs.take (i + 1) = xs.take i ++ [x] := by rw [hx]; simp
            have eyt : ys.take (i + 1) = ys.take i ++ [y] := by rw [hy]; simp
            refine Br.mk (fun h7 => ?_) (fun h7 => ?_)
            · have h7 : x ≠ y := by
                rintro rfl
                simp at h7
              have h8 : xs ≠ ys := by
                intro e
                subst e
                exact h7 (by rw [hx, hy])
              repeat ((conv => whnf); first | refine Br.t ?_ | refine Br.f ?_ | refine ⟨rfl, ?_⟩)
              conv => whnf
              refine fin (target := []) rfl (Nat.zero_le _) (by simp) ?_ rfl
              simp [sameW, h8]
            · have h7 : x = y := by
                simp at h7
                exact Prod.ext h7.1 h7.2
              repeat ((conv => whnf); first | refine Br.t ?_ | refine Br.f ?_ | refine ⟨rfl, ?_⟩)
              conv => whnf
              refine ⟨i + 1, ⟨by omega, by rw [ext, eyt, k2, h7]⟩, by omega, Le.slots ?_⟩
              simp [leS, mkS]
              exact i64_id (by omega) (by omega)
          · simp at h6
            have e1 : xs = ys := by rw [List.take_of_length_le (by omega), List.take_of_length_le (by omega)] at k2; exact k2
            repeat ((conv => whnf); first | refine Br.t ?_ | refine Br.f ?_ | refine ⟨rfl, ?_⟩)
            conv => whnf
            refine fin (target := []) rfl (Nat.zero_le _) (by simp) ?_ rfl
            simp [sameW, h1, h2, h3, e1]
end Go.Proofs.Ytdbmfnhbgacldaa.Am
