/- Contracts: threads that begin; copies. -/
import Derived.Test.YtiikndppckjmhaaSmB
namespace Go.Proofs.Ytiikndppckjmhaa.Am
set_option autoImplicit false
set_option linter.unusedVariables false
set_option linter.unusedSimpArgs false
set_option maxRecDepth 10000
set_option pp.maxSteps 3000
set_option pp.proofs false
def th0 (f : Nat) : Th := ⟨[(f, 0)], [0, 0, 0, 0, 0, 0, 0, 0]⟩
def thV (t : Th) : V := .agg ((encTh t).map .i)
theorem begin_ok (f : Nat) : CallW Try.prog G0 70 [.i (.int .i64 f)] [] (fun r st' => r = thV (th0 f) ∧ st' = []) := by
  refine call_of_bodyF 0 (Nat.le_refl _) Try.func70 rfl (fun a w => Try.call70 a w) (wpx_ok (own := own0) _ _ _ ?_)
  repeat ((conv => whnf); first | refine Br.t ?_ | refine Br.f ?_ | refine ⟨rfl, ?_⟩)
  conv => whnf
  refine fin (target := []) rfl (Nat.zero_le _) (by simp) rfl rfl
def cfg0 : Cfg := ⟨[th0 0], List.replicate 16 0⟩
def cfgZ : Cfg := ⟨[], []⟩
def startC (p : Pg) : Cfg := if (chk p).2.2 = 0 then cfg0 else cfgZ
theorem start_ok (p : Pg) (hp : okPg p) : CallW Try.prog G0 27 [pgV p] [] (fun r st' => r = .tup [cfgV (startC p), .i (.int .i64 (chk p).2.2)] ∧ st' = []) := by
  refine call_of_bodyF 0 (Nat.le_refl _) Try.func27 rfl (fun a w => Try.call27 a w) (wpx_ok (own := own0) _ _ _ ?_)
  unfold startC
  obtain ⟨x, y, z, hz⟩ : ∃ x y z, chk p = (x, y, z) := ⟨_, _, _, rfl⟩
  have c := check31 p hp
  rw [hz] at c ⊢
  repeat ((conv => whnf); first | refine Br.t ?_ | refine Br.f ?_ | refine ⟨rfl, ?_⟩)
  conv => whnf
  refine CallW.mono (c.pure _ rfl rfl) ?_
  rintro r st' ⟨rfl, rfl⟩
  by_cases h0 : z = 0
  · subst h0
    rw [if_pos rfl]
    repeat ((conv => whnf); first | refine Br.t ?_ | refine Br.f ?_ | refine ⟨rfl, ?_⟩)
    conv => whnf
    refine CallW.mono ((begin_ok 0).pure _ rfl rfl) ?_
    rintro r st' ⟨rfl, rfl⟩
    repeat ((conv => whnf); first | refine Br.t ?_ | refine Br.f ?_ | refine ⟨rfl, ?_⟩)
    conv => whnf
    refine fin (target := []) rfl (Nat.zero_le _) (by simp) rfl rfl
  · rw [if_neg h0]
    repeat ((conv => whnf); first | refine Br.t ?_ | refine Br.f ?_ | refine ⟨rfl, ?_⟩)
    conv => whnf
    refine Br.mk (fun h => ?_) (fun h => by simp at h; exact absurd h h0)
    repeat ((conv => whnf); first | refine Br.t ?_ | refine Br.f ?_ | refine ⟨rfl, ?_⟩)
    conv => whnf
    refine fin (target := []) rfl (Nat.zero_le _) (by simp) rfl rfl
theorem lift_take (es : List (List I)) : lift (es.take es.length) = lift es := by rw [List.take_length]
theorem cloneT (es : List (List I)) (h9 : ∀ cs ∈ es, cs.length = 9) (hn : es.length ≤ 8) (h0 : es ≠ []) : CallW Try.prog G0 102 [.i (.sl es)] [] (fun r st' => r = .ref 0 2 0 es.length ∧ st' = [.row 2 9 false (lift es)]) := by
  refine call_of_body Try.func102 rfl (fun a w => Try.call102 a w) (wpx_ok (own := own0) _ _ _ ?_)
  repeat ((conv => whnf); first | refine Br.t ?_ | refine Br.f ?_ | refine ⟨rfl, ?_⟩)
  conv => whnf
  intro b hb
  have hb := hb h0
  subst hb
  repeat ((conv => whnf); first | refine Br.t ?_ | refine Br.f ?_ | refine ⟨rfl, ?_⟩)
  conv => whnf
  refine ⟨⟨h9, by rfl, ?_, len_mx ?_⟩, ?_⟩
  · have : (lift es).length = es.length := by simp [lift]
    rw [this]; show (0 + es.length) * 88 ≤ _; omega
  · have : (lift es).length = es.length := by simp [lift]
    rw [this]; omega
  repeat ((conv => whnf); first | refine Br.t ?_ | refine Br.f ?_ | refine ⟨rfl, ?_⟩)
  conv => whnf
  refine ⟨?_, rfl⟩
  simp [lift]
theorem cloneF (es : List (List I)) (h9 : ∀ cs ∈ es, cs.length = 2) (hn : es.length ≤ 16) (h0 : es ≠ []) : CallW Try.prog G0 103 [.i (.sl es)] [] (fun r st' => r = .ref 0 2 0 es.length ∧ st' = [.row 2 2 false (lift es)]) := by
  refine call_of_body Try.func103 rfl (fun a w => Try.call103 a w) (wpx_ok (own := own0) _ _ _ ?_)
  repeat ((conv => whnf); first | refine Br.t ?_ | refine Br.f ?_ | refine ⟨rfl, ?_⟩)
  conv => whnf
  intro b hb
  have hb := hb h0
  subst hb
  repeat ((conv => whnf); first | refine Br.t ?_ | refine Br.f ?_ | refine ⟨rfl, ?_⟩)
  conv => whnf
  refine ⟨⟨h9, by rfl, ?_, len_mx ?_⟩, ?_⟩
  · have : (lift es).length = es.length := by simp [lift]
    rw [this]; show (0 + es.length) * 16 ≤ _; omega
  · have : (lift es).length = es.length := by simp [lift]
    rw [this]; omega
  repeat ((conv => whnf); first | refine Br.t ?_ | refine Br.f ?_ | refine ⟨rfl, ?_⟩)
  conv => whnf
  refine ⟨?_, rfl⟩
  simp [lift]
theorem cloneD (es : List (List I)) (h9 : ∀ cs ∈ es, cs.length = 2) (hn : es.length ≤ 16) : CallW Try.prog G0 103 [.i (.sl es)] [] (fun r st' => r = .i (.sl es) ∧ st' = []) := by
  refine call_of_bodyF 0 (Nat.le_refl _) Try.func103 rfl (fun a w => Try.call103 a w) (wpx_ok (own := own0) _ _ _ ?_)
  repeat ((conv => whnf); first | refine Br.t ?_ | refine Br.f ?_ | refine ⟨rfl, ?_⟩)
  conv => whnf
  intro b hb
  cases b with
  | true =>
    have h0 : es = [] := Classical.byContradiction fun h => by have := hb h; cases this
    subst h0
    repeat ((conv => whnf); first | refine Br.t ?_ | refine Br.f ?_ | refine ⟨rfl, ?_⟩)
    conv => whnf
    refine fin (target := []) rfl (Nat.zero_le _) (by simp) rfl rfl
  | false =>
    repeat ((conv => whnf); first | refine Br.t ?_ | refine Br.f ?_ | refine ⟨rfl, ?_⟩)
    conv => whnf
    refine ⟨⟨h9, by rfl, ?_, len_mx ?_⟩, ?_⟩
    · have : (lift es).length = es.length := by simp [lift]
      rw [this]; show (0 + es.length) * 16 ≤ _; omega
    · have : (lift es).length = es.length := by simp [lift]
      rw [this]; omega
    repeat ((conv => whnf); first | refine Br.t ?_ | refine Br.f ?_ | refine ⟨rfl, ?_⟩)
    conv => whnf
    refine ⟨Nat.zero_le _, rfl, es, rfl, ?_⟩
    refine fin (target := []) rfl (Nat.zero_le _) (by simp) ?_ rfl
    simp [lift]
end Go.Proofs.Ytiikndppckjmhaa.Am
