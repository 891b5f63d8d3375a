/- The law: what is wrong with any witness, and its bytes. -/
import Derived.Test.YtdbmfnhbgacldaaWwG
import Derived.Test.YtdbmfnhbgacldaaAmX
namespace Go.Proofs.Ytdbmfnhbgacldaa.Am
set_option autoImplicit false
set_option linter.unusedVariables false
set_option linter.unusedSimpArgs false
set_option maxRecDepth 10000
set_option pp.deepTerms false
set_option pp.deepTerms.threshold 6
set_option pp.proofs false
theorem wake_bytes : bytesW [] 0 1 2 = [by8 97, by8 108, by8 119, by8 49, by8 0, by8 0, by8 1, by8 2] := by
  simp [bytesW, headW, magic, pks, puts_small]
theorem wake_ok : okW 0 1 2 = true := by decide
def isB (zs : List (List I)) : Prop := ∀ cs ∈ zs, ∃ n : Nat, cs = by8 n
theorem isB_ok {zs : List (List I)} (h : isB zs) : (∀ cs ∈ zs, cs.length = 1) ∧ ∀ cs ∈ lift zs, isByte cs := by
  refine ⟨fun cs hcs => ?_, fun cs hcs => ?_⟩
  · obtain ⟨n, rfl⟩ := h cs hcs; rfl
  · simp only [lift, List.mem_map] at hcs
    obtain ⟨x, hx, rfl⟩ := hcs
    obtain ⟨n, rfl⟩ := h x hx
    trivial
theorem isB_app {a b : List (List I)} (h1 : isB a) (h2 : isB b) : isB (a ++ b) := fun cs h => (List.mem_append.1 h).elim (h1 cs) (h2 cs)
theorem isB_map (ns : List Nat) : isB (ns.map by8) := fun cs h => by
  simp only [List.mem_map] at h
  obtain ⟨n, _, rfl⟩ := h
  exact ⟨n, rfl⟩
theorem isB_W (xs : List (Int × Bool)) (a b c : Int) : isB (bytesW xs a b c) :=
  isB_app (isB_app (isB_app (isB_app (isB_app (isB_map [97, 108, 119, 49]) (isB_map _)) (isB_map _)) (isB_map _)) (isB_map _)) (isB_map _)
theorem awake10 : CallW Try.prog G0 10 [] [] (fun r st' => r = .i (.bool true) ∧ st' = []) := by
  refine call_of_bodyF 0 (Nat.le_refl _) Try.func10 rfl (fun a w => Try.call10 a w) (wpx_ok (own := own0) _ _ _ ?_)
  repeat ((conv => whnf); first | refine Br.t ?_ | refine Br.f ?_ | refine ⟨rfl, ?_⟩)
  conv => whnf
  have hw : CallW Try.prog G0 11 [.agg [.nils, .i (.int .i64 0), .i (.int .i64 1), .i (.int .i64 2)]] [] (fun r st' => r = .tup [.i (.sl [by8 97, by8 108, by8 119, by8 49, by8 0, by8 0, by8 1, by8 2]), .i (.int .i64 0)] ∧ st' = []) := by
    have h := write11 [] 0 1 2 (by decide)
    rw [show codeW [] 0 1 2 = 0 from by decide, if_pos rfl, wake_bytes] at h
    exact h.nd rfl
  refine (hw.pure _ rfl rfl).mono ?_
  rintro r st' ⟨rfl, rfl⟩
  repeat ((conv => whnf); first | refine Br.t ?_ | refine Br.f ?_ | refine ⟨rfl, ?_⟩)
  conv => whnf
  refine ⟨isB_ok (isB_map [97, 108, 119, 49, 0, 0, 1, 2]), ?_⟩
  repeat ((conv => whnf); first | refine Br.t ?_ | refine Br.f ?_ | refine ⟨rfl, ?_⟩)
  conv => whnf
  refine fin (target := []) rfl (Nat.zero_le _) (by simp) rfl rfl
theorem law3 (xs : List (Int × Bool)) (a b c : Int) (hx : xs.length ≤ 9223372036854775807) : CallW Try.prog G0 3 [.agg ((encW xs a b c).map .i)] [] (fun r st' => r = .i (.bool true) ∧ st' = []) := by
  refine call_of_bodyF 0 (Nat.le_refl _) Try.func3 rfl (fun a w => Try.call3 a w) (wpx_ok (own := own0) _ _ _ ?_)
  repeat ((conv => whnf); first | refine Br.t ?_ | refine Br.f ?_ | refine ⟨rfl, ?_⟩)
  conv => whnf
  refine (awake10.pure _ rfl rfl).mono ?_
  rintro r st' ⟨rfl, rfl⟩
  repeat ((conv => whnf); first | refine Br.t ?_ | refine Br.f ?_ | refine ⟨rfl, ?_⟩)
  conv => whnf
  refine Br.mk (fun h => ?_) (fun h => ?_)
  · simp at h
    repeat ((conv => whnf); first | refine Br.t ?_ | refine Br.f ?_ | refine ⟨rfl, ?_⟩)
    conv => whnf
    refine (awake10.pure _ rfl rfl).mono ?_
    rintro r st' ⟨rfl, rfl⟩
    repeat ((conv => whnf); first | refine Br.t ?_ | refine Br.f ?_ | refine ⟨rfl, ?_⟩)
    conv => whnf
    refine fin (target := []) rfl (Nat.zero_le _) (by simp) rfl rfl
  · simp at h
    repeat ((conv => whnf); first | refine Br.t ?_ | refine Br.f ?_ | refine ⟨rfl, ?_⟩)
    conv => whnf
    refine ((write11 xs a b c (by omega)).pure _ rfl rfl).mono ?_
    rintro r st' ⟨rfl, rfl⟩
    by_cases hc : codeW xs a b c = 0
    · rw [if_pos hc, hc]
      repeat ((conv => whnf); first | refine Br.t ?_ | refine Br.f ?_ | refine ⟨rfl, ?_⟩)
      conv => whnf
      refine ((check12 xs a b c (by omega)).pure _ rfl rfl).mono ?_
      rintro r st' ⟨rfl, rfl⟩
      rw [hc]
      repeat ((conv => whnf); first | refine Br.t ?_ | refine Br.f ?_ | refine ⟨rfl, ?_⟩)
      conv => whnf
      have hs : codeS xs = 0 := by simp only [codeW] at hc; split at hc <;> simp_all
      have ho : okW a b c = true := by simp only [codeW, hs, if_true] at hc; split at hc <;> simp_all
      refine draw_ok (own := own0) [] [] [(.i (.int .i64 0), [row0 xs a b c]), (.i (.sl (bytesW xs a b c)), [row0 xs a b c])] rfl (by kernel_rfl) (Nat.zero_le _) ?_
      repeat ((conv => whnf); first | refine Br.t ?_ | refine Br.f ?_ | refine ⟨rfl, ?_⟩)
      conv => whnf
      have k13 : CallW Try.prog G0 13 [.agg ((encW xs a b c).map .i)] [row0 xs a b c] (fun r st' => r = .i (.int .i64 0) ∧ st' = [row0 xs a b c]) := by
        have := (check13 xs a b c (by omega)).pure [row0 xs a b c] rfl rfl
        rwa [hc] at this
      refine ⟨k13, ?_⟩
      repeat ((conv => whnf); first | refine Br.t ?_ | refine Br.f ?_ | refine ⟨rfl, ?_⟩)
      conv => whnf
      refine ⟨isB_ok (isB_W xs a b c), ?_⟩
      repeat ((conv => whnf); first | refine Br.t ?_ | refine Br.f ?_ | refine ⟨rfl, ?_⟩)
      conv => whnf
      refine ⟨(write14 xs a b c (by omega) hs ho).pure [row0 xs a b c] rfl rfl, ?_⟩
      repeat ((conv => whnf); first | refine Br.t ?_ | refine Br.f ?_ | refine ⟨rfl, ?_⟩)
      conv => whnf
      refine ⟨isB_ok (isB_W xs a b c), ?_⟩
      repeat ((conv => whnf); first | refine Br.t ?_ | refine Br.f ?_ | refine ⟨rfl, ?_⟩)
      conv => whnf
      refine ⟨?_, trivial, ?_⟩
      · repeat ((conv => whnf); first | exact trivial | refine ⟨rfl, ?_⟩)
      · conv => whnf
        refine fin (target := []) rfl (Nat.zero_le _) (by simp) ?_ rfl
        simp
    · rw [if_neg hc]
      repeat ((conv => whnf); first | refine Br.t ?_ | refine Br.f ?_ | refine ⟨rfl, ?_⟩)
      conv => whnf
      refine ((check12 xs a b c (by omega)).pure _ rfl rfl).mono ?_
      rintro r st' ⟨rfl, rfl⟩
      repeat ((conv => whnf); first | refine Br.t ?_ | refine Br.f ?_ | refine ⟨rfl, ?_⟩)
      conv => whnf
      refine Br.mk (fun h1 => ?_) (fun h1 => ?_)
      · repeat ((conv => whnf); first | refine Br.t ?_ | refine Br.f ?_ | refine ⟨rfl, ?_⟩)
        conv => whnf
        refine Br.mk (fun h2 => ?_) (fun h2 => ?_)
        · repeat ((conv => whnf); first | refine Br.t ?_ | refine Br.f ?_ | refine ⟨rfl, ?_⟩)
          conv => whnf
          refine ((check13 xs a b c (by omega)).pure _ rfl rfl).mono ?_
          rintro r st' ⟨rfl, rfl⟩
          repeat ((conv => whnf); first | refine Br.t ?_ | refine Br.f ?_ | refine ⟨rfl, ?_⟩)
          conv => whnf
          refine fin (target := []) rfl (Nat.zero_le _) (by simp) ?_ rfl
          simp
        · simp at h2
      · simp at h1; exact absurd h1 hc
end Go.Proofs.Ytdbmfnhbgacldaa.Am
