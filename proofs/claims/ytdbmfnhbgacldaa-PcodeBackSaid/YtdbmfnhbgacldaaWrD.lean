/- Contracts: the reader's numbers and blocks. -/
import Derived.Test.YtdbmfnhbgacldaaWrC
namespace Go.Proofs.Ytdbmfnhbgacldaa.Am
set_option autoImplicit false
set_option linter.unusedVariables false
set_option linter.unusedSimpArgs false
set_option maxRecDepth 10000
set_option pp.deepTerms false
set_option pp.deepTerms.threshold 6
set_option pp.proofs false
theorem getV_ok : ∀ (bs : List Nat) (i acc : Nat), i ≤ 4 → acc < 128 ^ i → (getV i acc bs).1 < 4294967296 ∧ (getV i acc bs).2.1 ≤ i + bs.length ∧ ((getV i acc bs).2.2 = 0 → i < (getV i acc bs).2.1)
  | [], i, acc, h1, h2 => by simp [getV]
  | b :: rest, i, acc, h1, h2 => by
    rw [getV]
    by_cases hc : i = 4 ∧ 15 < b
    · rw [if_pos hc]; simp
    · rw [if_neg hc]
      by_cases hb : b < 128
      · rw [if_pos hb]
        split
        · simp
        · refine ⟨?_, by simp, by simp⟩
          have := retV h1 h2 hb hc
          have : i = 0 ∨ i = 1 ∨ i = 2 ∨ i = 3 ∨ i = 4 := by omega
          rcases this with rfl | rfl | rfl | rfl | rfl <;> simp at h2 ⊢ <;> omega
      · rw [if_neg hb]
        obtain ⟨a1, a2, a3⟩ := getV_ok rest (i + 1) (acc + b % 128 * 128 ^ i) (by omega) (stepV h2)
        exact ⟨a1, by simp; omega, fun h => by have := a3 h; omega⟩
theorem bytes_one (bs : List Nat) : ∀ cs ∈ bs.map by8, cs.length = 1 := by
  intro cs h
  simp only [List.mem_map] at h
  obtain ⟨b, _, rfl⟩ := h
  rfl
theorem drop_all (bs : List Nat) (p : Nat) : (((bs.map by8).drop (p : Int).toNat).take ((((bs.map by8).length : Nat) : Int).toNat - (p : Int).toNat)) = (bs.drop p).map by8 := by
  rw [Int.toNat_natCast, Int.toNat_natCast, List.map_drop]
  exact List.take_of_length_le (by simp)
def Rd.num (s : Rd) (mx : Int) : Nat × Rd :=
  if s.why ≠ 0 then (0, s) else if (getV 0 0 (s.bs.drop s.p)).2.2 ≠ 0 then (0, s.fail (getV 0 0 (s.bs.drop s.p)).2.2) else if mx < ((getV 0 0 (s.bs.drop s.p)).1 : Int) then (0, s.fail 4) else ((getV 0 0 (s.bs.drop s.p)).1, { s with p := s.p + (getV 0 0 (s.bs.drop s.p)).2.1 })
theorem num37 (s : Rd) (hok : s.ok) (mx : Int) : CallW Try.prog G0 37 [.ptr 0 0 0 0, .i (.int .i64 mx)] [rdB s] (fun r st' => r = .i (.int .i64 (s.num mx).1) ∧ st' = [rdB (s.num mx).2]) := by
  refine call_of_bodyF 1 (Nat.le_refl _) Try.func37 rfl (fun a w => Try.call37 a w) (wpx_ok (own := own0) _ _ _ ?_)
  obtain ⟨k1, k2, k3⟩ := hok
  obtain ⟨g, hg⟩ : ∃ g, g = getV 0 0 (s.bs.drop s.p) := ⟨_, rfl⟩
  have hgo := getV_ok (s.bs.drop s.p) 0 0 (by decide) (by decide)
  have hc := get51 (s.bs.drop s.p) (by simp; omega) (fun b hb => k3 b (List.mem_of_mem_drop hb))
  rw [← hg] at hgo hc
  simp only [List.length_drop] at hgo
  have hnum : s.num mx = if s.why ≠ 0 then (0, s) else if g.2.2 ≠ 0 then (0, s.fail g.2.2) else if mx < (g.1 : Int) then (0, s.fail 4) else (g.1, { s with p := s.p + g.2.1 }) := by rw [hg]; rfl
  rw [hnum]
  obtain ⟨v, k, f⟩ := g
  simp only at hgo hc ⊢
  obtain ⟨g1, g2, g3⟩ := hgo
  have hc : CallW Try.prog G0 51 [.i (.sl ((s.bs.drop s.p).map by8))] [] (fun r st' => r = .tup [.i (.int .u32 v), .i (.int .i64 k), .i (.int .i64 f)] ∧ st' = []) := hc
  repeat ((conv => whnf); first | refine Br.t ?_ | refine Br.f ?_ | refine ⟨rfl, ?_⟩)
  conv => whnf
  refine Br.mk (fun h => ?_) (fun h => ?_)
  · simp at h
    rw [if_pos (by omega)]
    repeat ((conv => whnf); first | refine Br.t ?_ | refine Br.f ?_ | refine ⟨rfl, ?_⟩)
    conv => whnf
    refine fin (target := [rdB s]) rfl (Nat.le_refl _) (rdB_cl _) rfl rfl
  · simp at h
    rw [if_neg (by omega)]
    repeat ((conv => whnf); first | refine Br.t ?_ | refine Br.f ?_ | refine ⟨rfl, ?_⟩)
    conv => whnf
    refine draw_ok (own := own0) [] [] [(.tup [.i (.int .u32 v), .i (.int .i64 k), .i (.int .i64 f)], [rdB s])] rfl (by kernel_rfl) (Nat.le_refl _) ?_
    repeat ((conv => whnf); first | refine Br.t ?_ | refine Br.f ?_ | refine ⟨rfl, ?_⟩)
    conv => whnf
    refine ⟨⟨by omega, by simp; omega, Int.le_refl _, bytes_one _⟩, ?_⟩
    repeat ((conv => whnf); first | refine Br.t ?_ | refine Br.f ?_ | refine ⟨rfl, ?_⟩)
    conv => whnf
    rw [drop_all]
    refine ⟨hc.pure [rdB s] rfl rfl, ?_⟩
    repeat ((conv => whnf); first | refine Br.t ?_ | refine Br.f ?_ | refine ⟨rfl, ?_⟩)
    conv => whnf
    refine ⟨by repeat ((conv => whnf); first | exact trivial | refine ⟨rfl, ?_⟩), trivial, ?_⟩
    conv => whnf
    refine Br.mk (fun h1 => ?_) (fun h1 => ?_)
    · simp at h1
      rw [if_pos h1]
      repeat ((conv => whnf); first | refine Br.t ?_ | refine Br.f ?_ | refine ⟨rfl, ?_⟩)
      conv => whnf
      refine (fail49 s f).mono ?_
      rintro r st' ⟨rfl, rfl⟩
      repeat ((conv => whnf); first | refine Br.t ?_ | refine Br.f ?_ | refine ⟨rfl, ?_⟩)
      conv => whnf
      refine fin (target := [rdB (s.fail f)]) rfl (Nat.le_refl _) (rdB_cl _) rfl rfl
    · simp at h1
      subst h1
      rw [if_neg (by simp)]
      repeat ((conv => whnf); first | refine Br.t ?_ | refine Br.f ?_ | refine ⟨rfl, ?_⟩)
      conv => whnf
      have ev : IntKind.i64.wrap (v : Int) = v := i64_id (by omega) (by omega)
      refine Br.mk (fun h2 => ?_) (fun h2 => ?_)
      · rw [ev] at h2
        simp at h2
        rw [if_pos (by omega)]
        repeat ((conv => whnf); first | refine Br.t ?_ | refine Br.f ?_ | refine ⟨rfl, ?_⟩)
        conv => whnf
        refine (fail49 s 4).mono ?_
        rintro r st' ⟨rfl, rfl⟩
        repeat ((conv => whnf); first | refine Br.t ?_ | refine Br.f ?_ | refine ⟨rfl, ?_⟩)
        conv => whnf
        refine fin (target := [rdB (s.fail 4)]) rfl (Nat.le_refl _) (rdB_cl _) rfl rfl
      · rw [ev] at h2
        simp at h2
        rw [if_neg (by omega)]
        repeat ((conv => whnf); first | refine Br.t ?_ | refine Br.f ?_ | refine ⟨rfl, ?_⟩)
        conv => whnf
        have ew : IntKind.i64.wrap ((s.p : Int) + (k : Int)) = ((s.p + k : Nat) : Int) := by rw [i64_id (by omega) (by omega)]; rfl
        refine fin (target := [rdB { s with p := s.p + k }]) ?_ (Nat.le_refl _) (rdB_cl _) ?_ rfl
        · show [Ob.row 0 4 false [[.i (.sl (s.bs.map by8)), .i (.int .i64 (IntKind.i64.wrap ((s.p : Int) + (k : Int)))), .i (.int .i64 s.a), .i (.int .i64 s.why)]]] = _
          rw [ew]; rfl
        · rw [ev]
end Go.Proofs.Ytdbmfnhbgacldaa.Am
