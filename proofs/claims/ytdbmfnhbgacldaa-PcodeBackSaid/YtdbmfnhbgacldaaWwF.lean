/- Contracts: the document's witness, and the law. -/
import Derived.Test.YtdbmfnhbgacldaaWwE
namespace Go.Proofs.Ytdbmfnhbgacldaa.Am
set_option autoImplicit false
set_option linter.unusedVariables false
set_option linter.unusedSimpArgs false
set_option maxRecDepth 10000
set_option pp.deepTerms false
set_option pp.deepTerms.threshold 6
set_option pp.proofs false
def row0 (xs : List (Int × Bool)) (a b c : Int) : Ob := .row 0 4 false [(encW xs a b c).map .i]
theorem check12 (xs : List (Int × Bool)) (a b c : Int) (hx : xs.length ≤ 1000000) : CallW Try.prog G0 12 [.agg ((encW xs a b c).map .i)] [] (fun r st' => r = .i (.int .i64 (codeW xs a b c)) ∧ st' = []) := by
  refine call_of_bodyF 0 (Nat.le_refl _) Try.func12 rfl (fun a w => Try.call12 a w) (wpx_ok (own := own0) _ _ _ ?_)
  repeat ((conv => whnf); first | refine Br.t ?_ | refine Br.f ?_ | refine ⟨rfl, ?_⟩)
  conv => whnf
  refine Br.mk (fun h => ?_) (fun h => ?_)
  · simp at h
    repeat ((conv => whnf); first | refine Br.t ?_ | refine Br.f ?_ | refine ⟨rfl, ?_⟩)
    conv => whnf
    have hc : codeS xs = 4 := by simp only [codeS]; rw [if_pos (by omega)]
    refine fin (target := []) rfl (Nat.zero_le _) (by simp) ?_ rfl
    simp [codeW, hc]
  · simp at h
    repeat ((conv => whnf); first | refine Br.t ?_ | refine Br.f ?_ | refine ⟨rfl, ?_⟩)
    conv => whnf
    refine loop_ok (α := Nat) (fun i => ⟨mkS 66 [(1, .ptr 0 0 0 0), (3, .i (.int .i64 i))], [row0 xs a b c]⟩) (fun i => i ≤ xs.length ∧ (xs.take i).all okP = true) (fun i => xs.length - i) 0 ⟨Nat.zero_le _, rfl⟩
      (Le.slots (by simp [leS, mkS])) (fun i hi => wpx_ok (own := own0) _ _ _ ?_)
    obtain ⟨h1, h2⟩ := hi
    repeat ((conv => whnf); first | refine Br.t ?_ | refine Br.f ?_ | refine ⟨rfl, ?_⟩)
    conv => whnf
    refine Br.mk (fun h3 => ?_) (fun h3 => ?_)
    · simp at h3
      conv => whnf
      obtain ⟨x, hxi⟩ : ∃ x, x = xs[i] := ⟨_, rfl⟩
      have e : (xs.map encP).getD (i : Int).toNat [] = encP x := by rw [hxi]; exact getD_enc h3
      have htk : xs.take (i + 1) = xs.take i ++ [x] := by rw [hxi]; simp
      repeat ((conv => whnf); first | refine Br.t ?_ | refine Br.f ?_ | refine ⟨rfl, ?_⟩)
      conv => whnf
      rw [e]
      refine ⟨⟨by omega, by simp; omega, rfl⟩, ?_⟩
      repeat ((conv => whnf); first | refine Br.t ?_ | refine Br.f ?_ | refine ⟨rfl, ?_⟩)
      conv => whnf
      refine Br.mk (fun h4 => ?_) (fun h4 => ?_)
      · simp at h4
        repeat ((conv => whnf); first | refine Br.t ?_ | refine Br.f ?_ | refine ⟨rfl, ?_⟩)
        conv => whnf
        have hc : codeS xs = 1 := codeS_bad (by omega) (hxi ▸ List.getElem_mem h3) (by simp only [okP]; simp; omega)
        refine fin (target := []) rfl (Nat.zero_le _) (by simp) ?_ rfl
        simp [codeW, hc]
      · simp at h4
        repeat ((conv => whnf); first | refine Br.t ?_ | refine Br.f ?_ | refine ⟨rfl, ?_⟩)
        conv => whnf
        rw [e]
        refine ⟨⟨by omega, by simp; omega, rfl⟩, ?_⟩
        repeat ((conv => whnf); first | refine Br.t ?_ | refine Br.f ?_ | refine ⟨rfl, ?_⟩)
        conv => whnf
        refine Br.mk (fun h5 => ?_) (fun h5 => ?_)
        · simp at h5
          repeat ((conv => whnf); first | refine Br.t ?_ | refine Br.f ?_ | refine ⟨rfl, ?_⟩)
          conv => whnf
          have hc : codeS xs = 1 := codeS_bad (by omega) (hxi ▸ List.getElem_mem h3) (by simp only [okP]; simp; omega)
          refine fin (target := []) rfl (Nat.zero_le _) (by simp) ?_ rfl
          simp [codeW, hc]
        · simp at h5
          repeat ((conv => whnf); first | refine Br.t ?_ | refine Br.f ?_ | refine ⟨rfl, ?_⟩)
          conv => whnf
          refine ⟨i + 1, ⟨by omega, ?_⟩, by omega, Le.slots ?_⟩
          · rw [htk, List.all_append, h2]
            have : okP x = true := by simp only [okP]; simp; omega
            simp [this]
          · simp [leS, mkS]
            exact i64_id (by omega) (by omega)
    · simp at h3
      have e : xs.take i = xs := List.take_of_length_le h3
      have hc : codeS xs = 0 := by rw [e] at h2; simp only [codeS]; rw [if_neg (by omega), if_pos h2]
      repeat ((conv => whnf); first | refine Br.t ?_ | refine Br.f ?_ | refine ⟨rfl, ?_⟩)
      conv => whnf
      refine Br.mk (fun h5 => ?_) (fun h5 => ?_)
      · repeat ((conv => whnf); first | refine Br.t ?_ | refine Br.f ?_ | refine ⟨rfl, ?_⟩)
        conv => whnf
        have ho : okW a b c = false := by simp at h5; simp only [okW]; simp; omega
        refine fin (target := []) rfl (Nat.zero_le _) (by simp) ?_ rfl
        simp [codeW, hc, ho]
      · repeat ((conv => whnf); first | refine Br.t ?_ | refine Br.f ?_ | refine ⟨rfl, ?_⟩)
        conv => whnf
        refine Br.mk (fun h6 => ?_) (fun h6 => ?_)
        · repeat ((conv => whnf); first | refine Br.t ?_ | refine Br.f ?_ | refine ⟨rfl, ?_⟩)
          conv => whnf
          have ho : okW a b c = false := by simp at h5 h6; simp only [okW]; simp; omega
          refine fin (target := []) rfl (Nat.zero_le _) (by simp) ?_ rfl
          simp [codeW, hc, ho]
        · repeat ((conv => whnf); first | refine Br.t ?_ | refine Br.f ?_ | refine ⟨rfl, ?_⟩)
          conv => whnf
          refine Br.mk (fun h7 => ?_) (fun h7 => ?_)
          · repeat ((conv => whnf); first | refine Br.t ?_ | refine Br.f ?_ | refine ⟨rfl, ?_⟩)
            conv => whnf
            have ho : okW a b c = false := by simp at h5 h6 h7; simp only [okW]; simp; omega
            refine fin (target := []) rfl (Nat.zero_le _) (by simp) ?_ rfl
            simp [codeW, hc, ho]
          · repeat ((conv => whnf); first | refine Br.t ?_ | refine Br.f ?_ | refine ⟨rfl, ?_⟩)
            conv => whnf
            refine Br.mk (fun h8 => ?_) (fun h8 => ?_)
            · repeat ((conv => whnf); first | refine Br.t ?_ | refine Br.f ?_ | refine ⟨rfl, ?_⟩)
              conv => whnf
              have ho : okW a b c = false := by simp at h5 h6 h7 h8; simp only [okW]; simp; omega
              refine fin (target := []) rfl (Nat.zero_le _) (by simp) ?_ rfl
              simp [codeW, hc, ho]
            · repeat ((conv => whnf); first | refine Br.t ?_ | refine Br.f ?_ | refine ⟨rfl, ?_⟩)
              conv => whnf
              refine Br.mk (fun h9 => ?_) (fun h9 => ?_)
              · repeat ((conv => whnf); first | refine Br.t ?_ | refine Br.f ?_ | refine ⟨rfl, ?_⟩)
                conv => whnf
                have ho : okW a b c = false := by simp at h5 h6 h7 h8 h9; simp only [okW]; simp; omega
                refine fin (target := []) rfl (Nat.zero_le _) (by simp) ?_ rfl
                simp [codeW, hc, ho]
              · repeat ((conv => whnf); first | refine Br.t ?_ | refine Br.f ?_ | refine ⟨rfl, ?_⟩)
                conv => whnf
                refine Br.mk (fun h10 => ?_) (fun h10 => ?_)
                · repeat ((conv => whnf); first | refine Br.t ?_ | refine Br.f ?_ | refine ⟨rfl, ?_⟩)
                  conv => whnf
                  have ho : okW a b c = false := by simp at h5 h6 h7 h8 h9 h10; simp only [okW]; simp; omega
                  refine fin (target := []) rfl (Nat.zero_le _) (by simp) ?_ rfl
                  simp [codeW, hc, ho]
                · repeat ((conv => whnf); first | refine Br.t ?_ | refine Br.f ?_ | refine ⟨rfl, ?_⟩)
                  conv => whnf
                  refine Br.mk (fun h11 => ?_) (fun h11 => ?_)
                  · repeat ((conv => whnf); first | refine Br.t ?_ | refine Br.f ?_ | refine ⟨rfl, ?_⟩)
                    conv => whnf
                    have ho : okW a b c = false := by simp at h5 h6 h7 h8 h9 h10 h11; simp only [okW]; simp; omega
                    refine fin (target := []) rfl (Nat.zero_le _) (by simp) ?_ rfl
                    simp [codeW, hc, ho]
                  · repeat ((conv => whnf); first | refine Br.t ?_ | refine Br.f ?_ | refine ⟨rfl, ?_⟩)
                    conv => whnf
                    have ho : okW a b c = true := by simp at h5 h6 h7 h8 h9 h10 h11; simp only [okW]; simp; omega
                    refine fin (target := []) rfl (Nat.zero_le _) (by simp) ?_ rfl
                    simp [codeW, hc, ho]
end Go.Proofs.Ytdbmfnhbgacldaa.Am
