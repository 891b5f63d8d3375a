/- Contracts: the table of calls, in full. -/
import Derived.Test.YtiikndppckjmhaaCaB
namespace Go.Proofs.Ytiikndppckjmhaa.Am
set_option autoImplicit false
set_option linter.unusedVariables false
set_option linter.unusedSimpArgs false
set_option maxRecDepth 10000
set_option pp.maxSteps 3000
set_option pp.proofs false
set_option maxHeartbeats 2000000 in
theorem calls_b (p : Pg) (n k a : Nat) (M1 : List (List Nat)) (hn : n ≤ 1000) (g1 : k < n) (g2 : a < n) (hs : Sq n M1) :
    W Try.prog G0 0 (.loop (lp Try.f72 4)) (fun e s' => e = .exit 8 ∧ Sq n (stepA n k M1 a) ∧ s' = ⟨mkS 96 [(3, .i (.int .i64 n)), (4, .ref 1 1 0 n), (8, .i (.int .i64 k)), (9, .i (.int .i64 a))], caTabB p n n ((stepA n k M1 a).map rowB)⟩)
      ⟨mkS 96 [(3, .i (.int .i64 n)), (4, .ref 1 1 0 n), (8, .i (.int .i64 k)), (9, .i (.int .i64 a)), (10, .i (.int .i64 0))], caTabB p n n (M1.map rowB)⟩ := by
  refine W.weak (loop_ok (α := Nat) (fun b => ⟨mkS 96 [(3, .i (.int .i64 n)), (4, .ref 1 1 0 n), (8, .i (.int .i64 k)), (9, .i (.int .i64 a)), (10, .i (.int .i64 b))], caTabB p n n (((List.range b).foldl (stepB k a) M1).map rowB)⟩)
    (fun b => b ≤ n ∧ Sq n ((List.range b).foldl (stepB k a) M1)) (fun b => n - b) 0 ⟨Nat.zero_le _, hs⟩ (Le.refl _ _) (fun b hb => wpx_ok (own := own0) _ _ _ ?_))
  obtain ⟨hb1, hb2⟩ := hb
  obtain ⟨M2, hM2⟩ : ∃ M2, M2 = (List.range b).foldl (stepB k a) M1 := ⟨_, rfl⟩
  rw [← hM2] at hb2 ⊢
  repeat ((conv => whnf); first | (refine Br.t ?_; try with_reducible refine told_in ?_) | (refine Br.f ?_; first | refine skip_f ?_ | skip) | refine ⟨rfl, ?_⟩ | refine fOs_in ?_)
  conv => whnf
  refine Br.mk (fun g3 => ?_) (fun g3 => ?_)
  · have g3 : b < n := by simpa using g3
    have hsq := hb2.stepB g2 k b
    have hla := hb2.2 a g2
    have hlk := hb2.2 k g1
    have hga := (tab_get p n n (M2.map rowB) a).trans (map_get M2 a (by rw [hb2.1]; exact g2))
    have hgk := (tab_get p n n (M2.map rowB) k).trans (map_get M2 k (by rw [hb2.1]; exact g1))
    obtain ⟨X, hX2⟩ : ∃ X, X = M2.map rowB := ⟨_, rfl⟩
    rw [← hX2] at hga hgk
    rw [← hX2]
    repeat ((conv => whnf); first | (refine Br.t ?_; try with_reducible refine told_in ?_) | (refine Br.f ?_; first | refine skip_f ?_ | skip) | refine ⟨rfl, ?_⟩ | refine fOs_in ?_)
    conv => whnf
    refine ⟨⟨by omega, by omega⟩, ?_⟩
    repeat ((conv => whnf); first | (refine Br.t ?_; try with_reducible refine told_in ?_) | (refine Br.f ?_; first | refine skip_f ?_ | skip) | refine ⟨rfl, ?_⟩ | refine fOs_in ?_)
    conv => whnf
    rw [refs_get n n a (by omega)]
    repeat ((conv => whnf); first | (refine Br.t ?_; try with_reducible refine told_in ?_) | (refine Br.f ?_; first | refine skip_f ?_ | skip) | refine ⟨rfl, ?_⟩ | refine fOs_in ?_)
    conv => whnf
    obtain ⟨v1, hv1⟩ : ∃ v, v = cell M2 a k := ⟨_, rfl⟩
    obtain ⟨v2, hv2⟩ : ∃ v, v = cell M2 k b := ⟨_, rfl⟩
    conv in (opA _ _ _ _ _) => tactic => exact op_ix hga rfl rfl rfl rfl rfl
    repeat ((conv => whnf); first | (refine Br.t ?_; try with_reducible refine told_in ?_) | (refine Br.f ?_; first | refine skip_f ?_ | skip) | refine ⟨rfl, ?_⟩ | refine fOs_in ?_)
    conv => whnf
    refine ⟨⟨by omega, by omega⟩, ?_⟩
    repeat ((conv => whnf); first | (refine Br.t ?_; try with_reducible refine told_in ?_) | (refine Br.f ?_; first | refine skip_f ?_ | skip) | refine ⟨rfl, ?_⟩ | refine fOs_in ?_)
    conv => whnf
    conv in (opA _ _ _ _ _) => tactic => exact op_load (v := .i (.int .i64 (v1 : Nat))) hga rfl rfl (by rw [cell_get M2 a k (by omega), ← hv1]; rfl)
    repeat ((conv => whnf); first | (refine Br.t ?_; try with_reducible refine told_in ?_) | (refine Br.f ?_; first | refine skip_f ?_ | skip) | refine ⟨rfl, ?_⟩ | refine fOs_in ?_)
    conv => whnf
    refine ⟨by rw [cell_get M2 a k (by omega)]; rfl, ?_⟩
    repeat ((conv => whnf); first | (refine Br.t ?_; try with_reducible refine told_in ?_) | (refine Br.f ?_; first | refine skip_f ?_ | skip) | refine ⟨rfl, ?_⟩ | refine fOs_in ?_)
    conv => whnf
    refine Br.mk (fun c1 => told_in ?_) (fun c1 => skip_f ?_)
    · have c1 : cell M2 a k = 1 := by rw [← hv1]; simp at c1; omega
      repeat ((conv => whnf); first | (refine Br.t ?_; try with_reducible refine told_in ?_) | (refine Br.f ?_; first | refine skip_f ?_ | skip) | refine ⟨rfl, ?_⟩ | refine fOs_in ?_)
      conv => whnf
      refine ⟨⟨by omega, by omega⟩, ?_⟩
      repeat ((conv => whnf); first | (refine Br.t ?_; try with_reducible refine told_in ?_) | (refine Br.f ?_; first | refine skip_f ?_ | skip) | refine ⟨rfl, ?_⟩ | refine fOs_in ?_)
      conv => whnf
      rw [refs_get n n k (by omega)]
      repeat ((conv => whnf); first | (refine Br.t ?_; try with_reducible refine told_in ?_) | (refine Br.f ?_; first | refine skip_f ?_ | skip) | refine ⟨rfl, ?_⟩ | refine fOs_in ?_)
      conv => whnf
      conv in (opA _ _ _ _ _) => tactic => exact op_ix hgk rfl rfl rfl rfl rfl
      repeat ((conv => whnf); first | (refine Br.t ?_; try with_reducible refine told_in ?_) | (refine Br.f ?_; first | refine skip_f ?_ | skip) | refine ⟨rfl, ?_⟩ | refine fOs_in ?_)
      conv => whnf
      refine ⟨⟨by omega, by omega⟩, ?_⟩
      repeat ((conv => whnf); first | (refine Br.t ?_; try with_reducible refine told_in ?_) | (refine Br.f ?_; first | refine skip_f ?_ | skip) | refine ⟨rfl, ?_⟩ | refine fOs_in ?_)
      conv => whnf
      conv in (opA _ _ _ _ _) => tactic => exact op_load (v := .i (.int .i64 (v2 : Nat))) hgk rfl rfl (by rw [cell_get M2 k b (by omega), ← hv2]; rfl)
      repeat ((conv => whnf); first | (refine Br.t ?_; try with_reducible refine told_in ?_) | (refine Br.f ?_; first | refine skip_f ?_ | skip) | refine ⟨rfl, ?_⟩ | refine fOs_in ?_)
      conv => whnf
      refine ⟨by rw [cell_get M2 k b (by omega)]; rfl, ?_⟩
      repeat ((conv => whnf); first | (refine Br.t ?_; try with_reducible refine told_in ?_) | (refine Br.f ?_; first | refine skip_f ?_ | skip) | refine ⟨rfl, ?_⟩ | refine fOs_in ?_)
      conv => whnf
      refine Br.mk (fun c2 => ?_) (fun c2 => ?_)
      · have c2 : cell M2 k b = 1 := by rw [← hv2]; simp at c2; omega
        have hst := tab_set p n n X a (M2.getD a []) b (by rw [hX2]; exact map_get M2 a (by rw [hb2.1]; exact g2)) (by omega)
        rw [hX2, set_rows, ← hX2] at hst
        repeat ((conv => whnf); first | (refine Br.t ?_; try with_reducible refine told_in ?_) | (refine Br.f ?_; first | refine skip_f ?_ | skip) | refine ⟨rfl, ?_⟩ | refine fOs_in ?_)
        conv => whnf
        refine ⟨⟨by omega, by omega⟩, ?_⟩
        repeat ((conv => whnf); first | (refine Br.t ?_; try with_reducible refine told_in ?_) | (refine Br.f ?_; first | refine skip_f ?_ | skip) | refine ⟨rfl, ?_⟩ | refine fOs_in ?_)
        conv => whnf
        rw [refs_get n n a (by omega)]
        repeat ((conv => whnf); first | (refine Br.t ?_; try with_reducible refine told_in ?_) | (refine Br.f ?_; first | refine skip_f ?_ | skip) | refine ⟨rfl, ?_⟩ | refine fOs_in ?_)
        conv => whnf
        conv in (opA _ _ _ _ _) => tactic => exact op_ix hga rfl rfl rfl rfl rfl
        repeat ((conv => whnf); first | (refine Br.t ?_; try with_reducible refine told_in ?_) | (refine Br.f ?_; first | refine skip_f ?_ | skip) | refine ⟨rfl, ?_⟩ | refine fOs_in ?_)
        conv => whnf
        refine ⟨⟨by omega, by omega⟩, ?_⟩
        repeat ((conv => whnf); first | (refine Br.t ?_; try with_reducible refine told_in ?_) | (refine Br.f ?_; first | refine skip_f ?_ | skip) | refine ⟨rfl, ?_⟩ | refine fOs_in ?_)
        conv => whnf
        conv in (opA _ _ _ _ _) => tactic => exact op_store hga rfl rfl hst
        repeat ((conv => whnf); first | (refine Br.t ?_; try with_reducible refine told_in ?_) | (refine Br.f ?_; first | refine skip_f ?_ | skip) | refine ⟨rfl, ?_⟩ | refine fOs_in ?_)
        conv => whnf
        refine ⟨st_ok rfl rfl _ _ (by omega) _, ?_⟩
        repeat ((conv => whnf); first | (refine Br.t ?_; try with_reducible refine told_in ?_) | (refine Br.f ?_; first | refine skip_f ?_ | skip) | refine ⟨rfl, ?_⟩ | refine fOs_in ?_)
        conv => whnf
        refine ⟨b + 1, ⟨by omega, ?_⟩, by omega, ?_⟩
        · rw [fold_succ, ← hM2]; exact hsq
        · rw [fold_succ, ← hM2]
          unfold stepB
          rw [if_pos ⟨c1, c2⟩]
          refine Le.slots ?_
          simp [leS, mkS]
          exact i64_id (by omega) (by omega)
      · have c2 : ¬ cell M2 k b = 1 := by rw [← hv2]; simp at c2; omega
        repeat ((conv => whnf); first | (refine Br.t ?_; try with_reducible refine told_in ?_) | (refine Br.f ?_; first | refine skip_f ?_ | skip) | refine ⟨rfl, ?_⟩ | refine fOs_in ?_)
        conv => whnf
        refine ⟨b + 1, ⟨by omega, ?_⟩, by omega, ?_⟩
        · rw [fold_succ, ← hM2]; exact hsq
        · rw [fold_succ, ← hM2]
          unfold stepB
          rw [if_neg (fun h => c2 h.2), ← hX2]
          refine Le.slots ?_
          simp [leS, mkS]
          exact i64_id (by omega) (by omega)
    · have c1 : ¬ cell M2 a k = 1 := by rw [← hv1]; simp at c1; omega
      repeat ((conv => whnf); first | (refine Br.t ?_; try with_reducible refine told_in ?_) | (refine Br.f ?_; first | refine skip_f ?_ | skip) | refine ⟨rfl, ?_⟩ | refine fOs_in ?_)
      conv => whnf
      refine ⟨b + 1, ⟨by omega, ?_⟩, by omega, ?_⟩
      · rw [fold_succ, ← hM2]; exact hsq
      · rw [fold_succ, ← hM2]
        unfold stepB
        rw [if_neg (fun h => c1 h.1), ← hX2]
        refine Le.slots ?_
        simp [leS, mkS]
        exact i64_id (by omega) (by omega)
  · have g3 : b = n := by simp at g3; omega
    subst g3
    repeat ((conv => whnf); first | (refine Br.t ?_; try with_reducible refine told_in ?_) | (refine Br.f ?_; first | refine skip_f ?_ | skip) | refine ⟨rfl, ?_⟩ | refine fOs_in ?_)
    conv => whnf
    have e2 : M2 = stepA b k M1 a := hM2
    rw [← e2]
    refine ⟨⟨mkS 96 [(3, .i (.int .i64 b)), (4, .ref 1 1 0 b), (8, .i (.int .i64 k)), (9, .i (.int .i64 a))], caTabB p b b (M2.map rowB)⟩, ?_, rfl, hb2, rfl⟩
    rw [hM2]
    exact Le.slots (by simp [leS, mkS])
set_option maxHeartbeats 2000000 in
theorem calls_a (p : Pg) (n k : Nat) (M : List (List Nat)) (hn : n ≤ 1000) (g1 : k < n) (hs : Sq n M) :
    W Try.prog G0 0 (.loop (lp Try.f72 3)) (fun e s' => e = .exit 6 ∧ Sq n (stepK n M k) ∧ s' = ⟨mkS 96 [(3, .i (.int .i64 n)), (4, .ref 1 1 0 n), (8, .i (.int .i64 k))], caTabB p n n ((stepK n M k).map rowB)⟩)
      ⟨mkS 96 [(3, .i (.int .i64 n)), (4, .ref 1 1 0 n), (8, .i (.int .i64 k)), (9, .i (.int .i64 0))], caTabB p n n (M.map rowB)⟩ := by
  refine W.weak (loop_ok (α := Nat) (fun a => ⟨mkS 96 [(3, .i (.int .i64 n)), (4, .ref 1 1 0 n), (8, .i (.int .i64 k)), (9, .i (.int .i64 a))], caTabB p n n (((List.range a).foldl (stepA n k) M).map rowB)⟩)
    (fun a => a ≤ n ∧ Sq n ((List.range a).foldl (stepA n k) M)) (fun a => n - a) 0 ⟨Nat.zero_le _, hs⟩ (Le.refl _ _) (fun a ha => wpx_ok (own := own0) _ _ _ ?_))
  obtain ⟨ha1, ha2⟩ := ha
  obtain ⟨M1, hM1⟩ : ∃ M1, M1 = (List.range a).foldl (stepA n k) M := ⟨_, rfl⟩
  rw [← hM1] at ha2 ⊢
  repeat ((conv => whnf); first | (refine Br.t ?_; try with_reducible refine told_in ?_) | (refine Br.f ?_; first | refine skip_f ?_ | skip) | refine ⟨rfl, ?_⟩ | refine fOs_in ?_)
  conv => whnf
  refine Br.mk (fun g2 => ?_) (fun g2 => ?_)
  · have g2 : a < n := by simpa using g2
    repeat ((conv => whnf); first | (refine Br.t ?_; try with_reducible refine told_in ?_) | (refine Br.f ?_; first | refine skip_f ?_ | skip) | refine ⟨rfl, ?_⟩ | refine fOs_in ?_)
    conv => whnf
    refine W.le (Le.slots (sl' := mkS 96 [(3, .i (.int .i64 n)), (4, .ref 1 1 0 n), (8, .i (.int .i64 k)), (9, .i (.int .i64 a)), (10, .i (.int .i64 0))]) (by simp [leS, mkS])) (W.mono (calls_b p n k a M1 hn g1 g2 ha2) ?_)
    rintro e s' ⟨rfl, hq, rfl⟩
    repeat ((conv => whnf); first | (refine Br.t ?_; try with_reducible refine told_in ?_) | (refine Br.f ?_; first | refine skip_f ?_ | skip) | refine ⟨rfl, ?_⟩ | refine fOs_in ?_)
    conv => whnf
    refine ⟨a + 1, ⟨by omega, ?_⟩, by omega, ?_⟩
    · rw [fold_succ, ← hM1]; exact hq
    · rw [fold_succ, ← hM1]
      refine Le.slots ?_
      simp [leS, mkS]
      exact i64_id (by omega) (by omega)
  · have g2 : a = n := by simp at g2; omega
    subst g2
    repeat ((conv => whnf); first | (refine Br.t ?_; try with_reducible refine told_in ?_) | (refine Br.f ?_; first | refine skip_f ?_ | skip) | refine ⟨rfl, ?_⟩ | refine fOs_in ?_)
    conv => whnf
    have e2 : M1 = stepK a M k := hM1
    rw [← e2]
    refine ⟨⟨mkS 96 [(3, .i (.int .i64 a)), (4, .ref 1 1 0 a), (8, .i (.int .i64 k))], caTabB p a a (M1.map rowB)⟩, ?_, rfl, ha2, rfl⟩
    rw [hM1]
    exact Le.slots (by simp [leS, mkS])
set_option maxHeartbeats 2000000 in
theorem calls_k (p : Pg) (n : Nat) (hn : n ≤ 1000) (hnn : n = p.fs.length) :
    W Try.prog G0 0 (.loop (lp Try.f72 2)) (fun e s' => e = .exit 4 ∧ Sq n (mat p) ∧ s' = ⟨mkS 96 [(3, .i (.int .i64 n)), (4, .ref 1 1 0 n)], caTabB p n n ((mat p).map rowB)⟩)
      ⟨mkS 96 [(3, .i (.int .i64 n)), (4, .ref 1 1 0 n), (8, .i (.int .i64 0))], caTabB p n n ((rows0 p).map rowB)⟩ := by
  refine W.weak (loop_ok (α := Nat) (fun k => ⟨mkS 96 [(3, .i (.int .i64 n)), (4, .ref 1 1 0 n), (8, .i (.int .i64 k))], caTabB p n n (((List.range k).foldl (stepK n) (rows0 p)).map rowB)⟩)
    (fun k => k ≤ n ∧ Sq n ((List.range k).foldl (stepK n) (rows0 p))) (fun k => n - k) 0 ⟨Nat.zero_le _, by rw [hnn]; exact rows0_sq p⟩ (Le.refl _ _) (fun k hk => wpx_ok (own := own0) _ _ _ ?_))
  obtain ⟨hk1, hk2⟩ := hk
  obtain ⟨M, hM⟩ : ∃ M, M = (List.range k).foldl (stepK n) (rows0 p) := ⟨_, rfl⟩
  rw [← hM] at hk2 ⊢
  repeat ((conv => whnf); first | (refine Br.t ?_; try with_reducible refine told_in ?_) | (refine Br.f ?_; first | refine skip_f ?_ | skip) | refine ⟨rfl, ?_⟩ | refine fOs_in ?_)
  conv => whnf
  refine Br.mk (fun g1 => ?_) (fun g1 => ?_)
  · have g1 : k < n := by simpa using g1
    repeat ((conv => whnf); first | (refine Br.t ?_; try with_reducible refine told_in ?_) | (refine Br.f ?_; first | refine skip_f ?_ | skip) | refine ⟨rfl, ?_⟩ | refine fOs_in ?_)
    conv => whnf
    refine W.le (Le.slots (sl' := mkS 96 [(3, .i (.int .i64 n)), (4, .ref 1 1 0 n), (8, .i (.int .i64 k)), (9, .i (.int .i64 0))]) (by simp [leS, mkS])) (W.mono (calls_a p n k M hn g1 hk2) ?_)
    rintro e s' ⟨rfl, hq, rfl⟩
    repeat ((conv => whnf); first | (refine Br.t ?_; try with_reducible refine told_in ?_) | (refine Br.f ?_; first | refine skip_f ?_ | skip) | refine ⟨rfl, ?_⟩ | refine fOs_in ?_)
    conv => whnf
    refine ⟨k + 1, ⟨by omega, ?_⟩, by omega, ?_⟩
    · rw [fold_succ, ← hM]; exact hq
    · rw [fold_succ, ← hM]
      refine Le.slots ?_
      simp [leS, mkS]
      exact i64_id (by omega) (by omega)
  · have g1 : k = n := by simp at g1; omega
    have hMm : M = mat p := by rw [hM, g1, hnn]; rfl
    subst g1
    repeat ((conv => whnf); first | (refine Br.t ?_; try with_reducible refine told_in ?_) | (refine Br.f ?_; first | refine skip_f ?_ | skip) | refine ⟨rfl, ?_⟩ | refine fOs_in ?_)
    conv => whnf
    rw [← hMm]
    refine ⟨⟨mkS 96 [(3, .i (.int .i64 k)), (4, .ref 1 1 0 k)], caTabB p k k (M.map rowB)⟩, ?_, rfl, hk2, rfl⟩
    rw [hM]
    exact Le.slots (by simp [leS, mkS])
set_option maxHeartbeats 2000000 in
theorem refcalls (p : Pg) (hc : Calls0 p) (hn : p.fs.length ≤ 1000) (hw : ∀ f ∈ p.fs, f.length ≤ 1000) : CallW Try.prog G0 72 [pgV p] [] (fun r st' => r = .i (.sl (encM (mat p))) ∧ st' = []) := by
  refine call_of_bodyF 0 (Nat.le_refl _) Try.func72 rfl (fun a w => Try.call72 a w) (W.weak (wpx_ok (own := own0) _ _ _ ?_))
  obtain ⟨n, hnn⟩ : ∃ n, n = p.fs.length := ⟨_, rfl⟩
  repeat ((conv => whnf); first | (refine Br.t ?_; try with_reducible refine told_in ?_) | (refine Br.f ?_; first | refine skip_f ?_ | skip) | refine ⟨rfl, ?_⟩ | refine fOs_in ?_)
  conv => whnf
  refine W.le (s' := ⟨mkS 96 [(1, .ptr 0 0 0 0), (3, .i (.int .i64 n)), (4, .ref 1 1 0 0), (5, .i (.int .i64 0))], caTabB p n 0 []⟩) ((Le.nil (n := 0) 4 1 rfl).trans ((Le.pads 14).trans (Le.slots (by simp [leS, mkS, hnn])))) (W.mono (calls_f p hc hn hw n hnn) ?_)
  rintro e s' ⟨rfl, rfl⟩
  repeat ((conv => whnf); first | (refine Br.t ?_; try with_reducible refine told_in ?_) | (refine Br.f ?_; first | refine skip_f ?_ | skip) | refine ⟨rfl, ?_⟩ | refine fOs_in ?_)
  conv => whnf
  refine W.le (Le.slots (sl' := mkS 96 [(3, .i (.int .i64 n)), (4, .ref 1 1 0 n), (8, .i (.int .i64 0))]) (by simp [leS, mkS])) (W.mono (calls_k p n (by omega) hnn) ?_)
  rintro e s' ⟨rfl, hq, rfl⟩
  repeat ((conv => whnf); first | (refine Br.t ?_; try with_reducible refine told_in ?_) | (refine Br.f ?_; first | refine skip_f ?_ | skip) | refine ⟨rfl, ?_⟩ | refine fOs_in ?_)
  conv => whnf
  refine ⟨_, (Le.slots (sl' := caEndS n) (by simp [leS, mkS, caEndS])).trans (data_tab p hq), ?_⟩
  repeat ((conv => whnf); first | (refine Br.t ?_; try with_reducible refine told_in ?_) | (refine Br.f ?_; first | refine skip_f ?_ | skip) | refine ⟨rfl, ?_⟩ | refine fOs_in ?_)
  conv => whnf
  refine fin (target := []) rfl (Nat.zero_le _) (by simp) rfl rfl
end Go.Proofs.Ytiikndppckjmhaa.Am
