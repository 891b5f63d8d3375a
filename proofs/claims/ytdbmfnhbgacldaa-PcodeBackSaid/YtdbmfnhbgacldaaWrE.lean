/- Contracts: the reader's blocks and its end; the document's reader. -/
import Derived.Test.YtdbmfnhbgacldaaWrD
namespace Go.Proofs.Ytdbmfnhbgacldaa.Am
set_option autoImplicit false
set_option linter.unusedVariables false
set_option linter.unusedSimpArgs false
set_option maxRecDepth 10000
set_option pp.deepTerms false
set_option pp.deepTerms.threshold 6
set_option pp.proofs false
theorem int0 (n : Nat) : ((n : Int) == 0) = (n == 0) := by
  rw [Bool.eq_iff_iff]
  simp
  try omega
theorem fail_ok {s : Rd} (h : s.ok) (c : Nat) : (s.fail c).ok := by
  unfold Rd.fail; split
  · exact h
  · exact h
theorem raw_ok {s : Rd} (h : s.ok) (n : Int) : (s.raw n).2.ok := by
  unfold Rd.raw
  split
  · exact h
  · split
    · exact fail_ok h _
    · split
      · exact fail_ok h _
      · rename_i h1 h2 h3
        have hl : s.left = s.bs.length - s.p := rfl
        exact ⟨h.1, by simp only; have := h.2.1; omega, h.2.2⟩
theorem num_ok {s : Rd} (h : s.ok) (mx : Int) : (s.num mx).2.ok := by
  unfold Rd.num
  split
  · exact h
  · split
    · exact fail_ok h _
    · split
      · exact fail_ok h _
      · obtain ⟨_, g2, _⟩ := getV_ok (s.bs.drop s.p) 0 0 (by decide) (by decide)
        simp only [List.length_drop] at g2
        exact ⟨h.1, by simp only; have := h.2.1; omega, h.2.2⟩
def Rd.block (s : Rd) (mx : Int) : List Nat × Rd := (s.num mx).2.raw (s.num mx).1
def Rd.done (s : Rd) : Rd := if s.why = 0 ∧ s.p < s.bs.length then s.fail 7 else s
theorem block36 (s : Rd) (hok : s.ok) (mx : Int) : CallW Try.prog G0 36 [.ptr 0 0 0 0, .i (.int .i64 mx)] [rdB s] (fun r st' => r = .i (.sl ((s.block mx).1.map by8)) ∧ st' = [rdB (s.block mx).2]) := by
  refine call_of_bodyF 1 (Nat.le_refl _) Try.func36 rfl (fun a w => Try.call36 a w) (wpx_ok (own := own0) _ _ _ ?_)
  repeat ((conv => whnf); first | refine Br.t ?_ | refine Br.f ?_ | refine ⟨rfl, ?_⟩)
  conv => whnf
  refine (num37 s hok mx).mono ?_
  rintro r st' ⟨rfl, rfl⟩
  repeat ((conv => whnf); first | refine Br.t ?_ | refine Br.f ?_ | refine ⟨rfl, ?_⟩)
  conv => whnf
  refine (raw34 (s.num mx).2 (num_ok hok mx) (s.num mx).1).mono ?_
  rintro r st' ⟨rfl, rfl⟩
  repeat ((conv => whnf); first | refine Br.t ?_ | refine Br.f ?_ | refine ⟨rfl, ?_⟩)
  conv => whnf
  refine fin (target := [rdB (s.block mx).2]) rfl (Nat.le_refl _) (rdB_cl _) rfl rfl
theorem done38 (s : Rd) (hok : s.ok) : CallW Try.prog G0 38 [.ptr 0 0 0 0] [rdB s] (fun r st' => r = .i (.bool (s.done.why == 0)) ∧ st' = [rdB s.done]) := by
  refine call_of_bodyF 1 (Nat.le_refl _) Try.func38 rfl (fun a w => Try.call38 a w) (wpx_ok (own := own0) _ _ _ ?_)
  repeat ((conv => whnf); first | refine Br.t ?_ | refine Br.f ?_ | refine ⟨rfl, ?_⟩)
  conv => whnf
  refine Br.mk (fun h => ?_) (fun h => ?_)
  · simp at h
    repeat ((conv => whnf); first | refine Br.t ?_ | refine Br.f ?_ | refine ⟨rfl, ?_⟩)
    conv => whnf
    refine (left50 s hok).mono ?_
    rintro r st' ⟨rfl, rfl⟩
    repeat ((conv => whnf); first | refine Br.t ?_ | refine Br.f ?_ | refine ⟨rfl, ?_⟩)
    conv => whnf
    refine Br.mk (fun h1 => ?_) (fun h1 => ?_)
    · simp only [decide_eq_true_eq] at h1
      have e : s.done = s.fail 7 := by unfold Rd.done; rw [if_pos ⟨h, by omega⟩]
      rw [e]
      repeat ((conv => whnf); first | refine Br.t ?_ | refine Br.f ?_ | refine ⟨rfl, ?_⟩)
      conv => whnf
      refine (fail49 s 7).mono ?_
      rintro r st' ⟨rfl, rfl⟩
      repeat ((conv => whnf); first | refine Br.t ?_ | refine Br.f ?_ | refine ⟨rfl, ?_⟩)
      conv => whnf
      refine fin (target := [rdB (s.fail 7)]) rfl (Nat.le_refl _) (rdB_cl _) ?_ rfl
      simp [Rd.fail, h]
    · simp only [decide_eq_false_iff_not] at h1
      have e : s.done = s := by unfold Rd.done; rw [if_neg (by omega)]
      rw [e]
      repeat ((conv => whnf); first | refine Br.t ?_ | refine Br.f ?_ | refine ⟨rfl, ?_⟩)
      conv => whnf
      refine fin (target := [rdB s]) rfl (Nat.le_refl _) (rdB_cl _) ?_ rfl
      simp [h]
  · simp at h
    have e : s.done = s := by unfold Rd.done; rw [if_neg (by omega)]
    rw [e]
    repeat ((conv => whnf); first | refine Br.t ?_ | refine Br.f ?_ | refine ⟨rfl, ?_⟩)
    conv => whnf
    refine fin (target := [rdB s]) rfl (Nat.le_refl _) (rdB_cl _) ?_ rfl
    rw [int0]
theorem fail42 (s : Rd) (c : Nat) : CallW Try.prog G0 42 [.ptr 0 0 0 0, .i (.int .i64 c)] [rdB s] (fun r st' => r = .tup [] ∧ st' = [rdB (s.fail c)]) := by
  refine call_of_bodyF 1 (Nat.le_refl _) Try.func42 rfl (fun a w => Try.call42 a w) (wpx_ok (own := own0) _ _ _ ?_)
  repeat ((conv => whnf); first | refine Br.t ?_ | refine Br.f ?_ | refine ⟨rfl, ?_⟩)
  conv => whnf
  refine Br.mk (fun h => ?_) (fun h => ?_)
  · simp at h
    repeat ((conv => whnf); first | refine Br.t ?_ | refine Br.f ?_ | refine ⟨rfl, ?_⟩)
    conv => whnf
    refine fin (target := [rdB (s.fail c)]) ?_ (Nat.le_refl _) (rdB_cl _) rfl rfl
    simp only [Rd.fail, h, if_true]
    rfl
  · simp at h
    repeat ((conv => whnf); first | refine Br.t ?_ | refine Br.f ?_ | refine ⟨rfl, ?_⟩)
    conv => whnf
    refine fin (target := [rdB (s.fail c)]) ?_ (Nat.le_refl _) (rdB_cl _) rfl rfl
    simp only [Rd.fail, h, if_false]
    rfl
theorem num41 (s : Rd) (hok : s.ok) (mx : Int) : CallW Try.prog G0 41 [.ptr 0 0 0 0, .i (.int .i64 mx)] [rdB s] (fun r st' => r = .i (.int .i64 (s.num mx).1) ∧ st' = [rdB (s.num mx).2]) := by
  refine call_of_bodyF 1 (Nat.le_refl _) Try.func41 rfl (fun a w => Try.call41 a w) (wpx_ok (own := own0) _ _ _ ?_)
  obtain ⟨k1, k2, k3⟩ := hok
  obtain ⟨g, hg⟩ : ∃ g, g = getV 0 0 (s.bs.drop s.p) := ⟨_, rfl⟩
  have hgo := getV_ok (s.bs.drop s.p) 0 0 (by decide) (by decide)
  have hc := get52 (s.bs.drop s.p) (by simp; omega) (fun b hb => k3 b (List.mem_of_mem_drop hb))
  rw [← hg] at hgo hc
  simp only [List.length_drop] at hgo
  have hnum : s.num mx = if s.why ≠ 0 then (0, s) else if g.2.2 ≠ 0 then (0, s.fail g.2.2) else if mx < (g.1 : Int) then (0, s.fail 4) else (g.1, { s with p := s.p + g.2.1 }) := by rw [hg]; rfl
  rw [hnum]
  obtain ⟨v, k, f⟩ := g
  simp only at hgo hc ⊢
  obtain ⟨g1, g2, g3⟩ := hgo
  have hc : CallW Try.prog G0 52 [.i (.sl ((s.bs.drop s.p).map by8))] [] (fun r st' => r = .tup [.i (.int .i64 v), .i (.int .i64 k), .i (.int .i64 f)] ∧ st' = []) := hc
  repeat ((conv => whnf); first | refine Br.t ?_ | refine Br.f ?_ | refine ⟨rfl, ?_⟩)
  conv => whnf
  refine Br.mk (fun h => ?_) (fun h => ?_)
  · simp at h
    rw [if_pos (by omega)]
    repeat ((conv => whnf); first | refine Br.t ?_ | refine Br.f ?_ | refine ⟨rfl, ?_⟩)
    conv => whnf
    refine fin (target := [rdB s]) rfl (Nat.le_refl _) (rdB_cl _) rfl rfl
  · simp at h
    rw [if_neg (by omega)]
    repeat ((conv => whnf); first | refine Br.t ?_ | refine Br.f ?_ | refine ⟨rfl, ?_⟩)
    conv => whnf
    refine draw_ok (own := own0) [] [] [(.tup [.i (.int .i64 v), .i (.int .i64 k), .i (.int .i64 f)], [rdB s])] rfl (by kernel_rfl) (Nat.le_refl _) ?_
    repeat ((conv => whnf); first | refine Br.t ?_ | refine Br.f ?_ | refine ⟨rfl, ?_⟩)
    conv => whnf
    refine ⟨⟨by omega, by simp; omega, Int.le_refl _, bytes_one _⟩, ?_⟩
    repeat ((conv => whnf); first | refine Br.t ?_ | refine Br.f ?_ | refine ⟨rfl, ?_⟩)
    conv => whnf
    rw [drop_all]
    refine ⟨hc.pure [rdB s] rfl rfl, ?_⟩
    repeat ((conv => whnf); first | refine Br.t ?_ | refine Br.f ?_ | refine ⟨rfl, ?_⟩)
    conv => whnf
    refine ⟨by repeat ((conv => whnf); first | exact trivial | refine ⟨rfl, ?_⟩), trivial, ?_⟩
    conv => whnf
    refine Br.mk (fun h1 => ?_) (fun h1 => ?_)
    · simp at h1
      rw [if_pos h1]
      repeat ((conv => whnf); first | refine Br.t ?_ | refine Br.f ?_ | refine ⟨rfl, ?_⟩)
      conv => whnf
      refine (fail42 s f).mono ?_
      rintro r st' ⟨rfl, rfl⟩
      repeat ((conv => whnf); first | refine Br.t ?_ | refine Br.f ?_ | refine ⟨rfl, ?_⟩)
      conv => whnf
      refine fin (target := [rdB (s.fail f)]) rfl (Nat.le_refl _) (rdB_cl _) rfl rfl
    · simp at h1
      subst h1
      rw [if_neg (by simp)]
      repeat ((conv => whnf); first | refine Br.t ?_ | refine Br.f ?_ | refine ⟨rfl, ?_⟩)
      conv => whnf
      refine Br.mk (fun h2 => ?_) (fun h2 => ?_)
      · simp at h2
        rw [if_pos (by omega)]
        repeat ((conv => whnf); first | refine Br.t ?_ | refine Br.f ?_ | refine ⟨rfl, ?_⟩)
        conv => whnf
        refine (fail42 s 4).mono ?_
        rintro r st' ⟨rfl, rfl⟩
        repeat ((conv => whnf); first | refine Br.t ?_ | refine Br.f ?_ | refine ⟨rfl, ?_⟩)
        conv => whnf
        refine fin (target := [rdB (s.fail 4)]) rfl (Nat.le_refl _) (rdB_cl _) rfl rfl
      · simp at h2
        rw [if_neg (by omega)]
        repeat ((conv => whnf); first | refine Br.t ?_ | refine Br.f ?_ | refine ⟨rfl, ?_⟩)
        conv => whnf
        have ew : IntKind.i64.wrap ((s.p : Int) + (k : Int)) = ((s.p + k : Nat) : Int) := by rw [i64_id (by omega) (by omega)]; rfl
        refine fin (target := [rdB { s with p := s.p + k }]) ?_ (Nat.le_refl _) (rdB_cl _) rfl rfl
        show [Ob.row 0 4 false [[.i (.sl (s.bs.map by8)), .i (.int .i64 (IntKind.i64.wrap ((s.p : Int) + (k : Int)))), .i (.int .i64 s.a), .i (.int .i64 s.why)]]] = _
        rw [ew]; rfl
end Go.Proofs.Ytdbmfnhbgacldaa.Am
