/- Contracts: the example of Race; a program's config behind picks; no lock is two threads'. -/
import Derived.Test.YtiikndppckjmhaaRaA
namespace Go.Proofs.Ytiikndppckjmhaa.Am
set_option autoImplicit false
set_option linter.unusedVariables false
set_option linter.unusedSimpArgs false
set_option maxRecDepth 10000
set_option pp.maxSteps 3000
set_option pp.proofs false
def pTwo : Pg := ⟨1, 0, 1, [[(5, 1, 1, 0), (2, 0, 2, 0), (9, 0, 0, 0)], [(2, 0, 1, 0), (9, 0, 0, 0)]]⟩
theorem chk_pTwo : chk pTwo = (0, 0, 0) := by decide
theorem pTwo_ok : PgOk pTwo := chk_zero (by rw [chk_pTwo])
theorem two_ok : CallW Try.prog G0 83 [] [] (fun r st' => r = pgV pTwo ∧ st' = []) := by
  refine call_of_bodyF 0 (Nat.le_refl _) Try.func83 rfl (fun a w => Try.call83 a w) (wpx_ok (own := own0) _ _ _ ?_)
  repeat ((conv => whnf); first | refine Br.t ?_ | refine Br.f ?_ | refine ⟨rfl, ?_⟩)
  conv => whnf
  refine fin (target := []) rfl (Nat.zero_le _) (by simp) rfl rfl
def cTwo : Cfg := ⟨[⟨[(0, 1)], [2, 0, 0, 0, 0, 0, 0, 0]⟩, ⟨[(1, 0)], [0, 0, 0, 0, 0, 0, 0, 0]⟩], List.replicate 16 0⟩
theorem step_two : stepC pTwo cfg0 0 false = cTwo := by rfl
theorem cTwo_ok : OkC pTwo cTwo := by rw [← step_two]; exact stepC_ok pTwo_ok (cfg0_ok pTwo_ok) 0 false
theorem first_two0 : firstR (touches pTwo cfg0) = none := by rfl
theorem first_two1 : firstR (touches pTwo cTwo) = some ((0, 0, true), (1, 0, true)) := by rfl
set_option maxHeartbeats 2000000 in
theorem raceawake : CallW Try.prog G0 42 [] [] (fun r st' => r = .i (.bool true) ∧ st' = []) := by
  refine call_of_bodyF 0 (Nat.le_refl _) Try.func42 rfl (fun a w => Try.call42 a w) (wpx_ok (own := own0) _ _ _ ?_)
  have c1 := start_ok pTwo (okPg_of' pTwo_ok)
  rw [startC, chk_pTwo, if_pos rfl] at c1
  have c2 := semstep pTwo pTwo_ok cfg0 (cfg0_ok pTwo_ok) 0 false
  rw [step_two] at c2
  have c3 := first_ok pTwo pTwo_ok cfg0 (cfg0_ok pTwo_ok)
  rw [first_two0] at c3
  have c4 := first_ok pTwo pTwo_ok cTwo cTwo_ok
  rw [first_two1] at c4
  repeat ((conv => whnf); first | refine Br.t ?_ | refine Br.f ?_ | refine ⟨rfl, ?_⟩)
  conv => whnf
  refine CallW.mono (two_ok.pure _ rfl rfl) ?_
  rintro r st' ⟨rfl, rfl⟩
  repeat ((conv => whnf); first | refine Br.t ?_ | refine Br.f ?_ | refine ⟨rfl, ?_⟩)
  conv => whnf
  refine CallW.mono (c1.pure _ rfl rfl) ?_
  rintro r st' ⟨rfl, rfl⟩
  repeat ((conv => whnf); first | refine Br.t ?_ | refine Br.f ?_ | refine ⟨rfl, ?_⟩)
  conv => whnf
  refine CallW.mono (c3.pure _ rfl rfl) ?_
  rintro r st' ⟨rfl, rfl⟩
  repeat ((conv => whnf); first | refine Br.t ?_ | refine Br.f ?_ | refine ⟨rfl, ?_⟩)
  conv => whnf
  refine draw_ok (own := own0) [] [] [(cfgV cTwo, [pgB pTwo, cfgB cfg0]), (.tup (firstT (some ((0, 0, true), (1, 0, true)))), [pgB pTwo, cfgB cfg0])] rfl (by kernel_rfl) (Nat.zero_le _) ?_
  repeat ((conv => whnf); first | refine Br.t ?_ | refine Br.f ?_ | refine ⟨rfl, ?_⟩)
  conv => whnf
  refine ⟨c2.pure _ rfl rfl, ?_⟩
  repeat ((conv => whnf); first | refine Br.t ?_ | refine Br.f ?_ | refine ⟨rfl, ?_⟩)
  conv => whnf
  refine ⟨c4.pure _ rfl rfl, ?_⟩
  repeat ((conv => whnf); first | refine Br.t ?_ | refine Br.f ?_ | refine ⟨rfl, ?_⟩)
  conv => whnf
  refine ⟨by repeat ((conv => whnf); first | exact trivial | refine ⟨rfl, ?_⟩), trivial, ?_⟩
  conv => whnf
  repeat ((conv => whnf); first | refine Br.t ?_ | refine Br.f ?_ | refine ⟨rfl, ?_⟩)
  conv => whnf
  refine fin (target := []) rfl (Nat.zero_le _) (by simp) rfl rfl
def runsV (p : Pg) (l : List (Int × Bool)) : V := .tup [cfgV (if (chk p).2.2 = 0 then runC p cfg0 l else cfgZ), .i (.int .i64 (if (chk p).2.2 = 0 then 1 else 0))]
def rnS (l : List (Int × Bool)) (i : Nat) : List V := mkS 31 [(1, .i (.sl (l.map encP))), (2, .ptr 0 0 0 0), (4, .ptr 1 0 0 0), (6, .ptr 2 0 0 0), (8, .i (.int .i64 i))]
set_option maxHeartbeats 2000000 in
theorem runs_ok (p : Pg) (hp0 : okPg p) (l : List (Int × Bool)) (hl : l.length ≤ 1000) : CallW Try.prog G0 43 [pgV p, .i (.sl (l.map encP))] [] (fun r st' => r = runsV p l ∧ st' = []) := by
  refine call_of_bodyF 0 (Nat.le_refl _) Try.func43 rfl (fun a w => Try.call43 a w) (wpx_ok (own := own0) _ _ _ ?_)
  have c0 := start_ok p hp0
  unfold runsV
  by_cases h0 : (chk p).2.2 = 0
  · have hp := chk_zero h0
    have es : startC p = cfg0 := by unfold startC; rw [if_pos h0]
    rw [es, h0] at c0
    rw [if_pos h0, if_pos h0]
    repeat ((conv => whnf); first | refine Br.t ?_ | refine Br.f ?_ | refine ⟨rfl, ?_⟩)
    conv => whnf
    refine CallW.mono (c0.pure _ rfl rfl) ?_
    rintro r st' ⟨rfl, rfl⟩
    repeat ((conv => whnf); first | refine Br.t ?_ | refine Br.f ?_ | refine ⟨rfl, ?_⟩)
    conv => whnf
    refine loop_ok (α := Nat) (fun i => ⟨rnS l i, [pgB p, zeroB, cfgB (runC p cfg0 (l.take i))]⟩)
      (fun i => i ≤ l.length) (fun i => l.length - i) 0 (Nat.zero_le _) (Le.slots (by simp [leS, mkS, rnS])) (fun i hi => wpx_ok (own := own0) _ _ _ ?_)
    have hc : OkC p (runC p cfg0 (l.take i)) := runC_ok hp _ (cfg0_ok hp)
    have hfull : i = l.length → runC p cfg0 (l.take i) = runC p cfg0 l := fun e => by rw [e, List.take_length]
    obtain ⟨c, hcc⟩ : ∃ c, c = runC p cfg0 (l.take i) := ⟨_, rfl⟩
    rw [← hcc] at hc hfull ⊢
    repeat ((conv => whnf); first | refine Br.t ?_ | refine Br.f ?_ | refine ⟨rfl, ?_⟩)
    conv => whnf
    refine Br.mk (fun g => ?_) (fun g => ?_)
    · have g : i < l.length := by simpa using g
      obtain ⟨x, hx⟩ : ∃ x, l[i]? = some x := ⟨_, List.getElem?_eq_getElem g⟩
      have ex : (l.map encP).getD (i : Int).toNat [] = encP x := by rw [Int.toNat_natCast]; simp [List.getD_eq_getElem?_getD, hx]
      have cs := semstep p hp c hc x.1 x.2
      have hrun := run_snoc p cfg0 l i x hx
      rw [← hcc] at hrun
      obtain ⟨d, hdd⟩ : ∃ d, d = stepC p c x.1 x.2 := ⟨_, rfl⟩
      rw [← hdd] at cs hrun
      repeat ((conv => whnf); first | refine Br.t ?_ | refine Br.f ?_ | refine ⟨rfl, ?_⟩)
      conv => whnf
      refine draw_ok (own := own0) [7] [] [(cfgV d, [pgB p, zeroB, cfgB c])] rfl (by kernel_rfl) (Nat.zero_le _) ?_
      repeat ((conv => whnf); first | refine Br.t ?_ | refine Br.f ?_ | refine ⟨rfl, ?_⟩)
      conv => whnf
      rw [ex]
      refine ⟨⟨by omega, by simp; omega, rfl⟩, ?_⟩
      repeat ((conv => whnf); first | refine Br.t ?_ | refine Br.f ?_ | refine ⟨rfl, ?_⟩)
      conv => whnf
      refine ⟨cs.pure _ rfl rfl, ?_⟩
      repeat ((conv => whnf); first | refine Br.t ?_ | refine Br.f ?_ | refine ⟨rfl, ?_⟩)
      conv => whnf
      refine ⟨by repeat ((conv => whnf); first | exact trivial | refine ⟨rfl, ?_⟩), trivial, ?_⟩
      conv => whnf
      repeat ((conv => whnf); first | refine Br.t ?_ | refine Br.f ?_ | refine ⟨rfl, ?_⟩)
      conv => whnf
      refine ⟨i + 1, by omega, by omega, ?_⟩
      rw [hrun]
      refine Le.slots ?_
      simp [leS, mkS, rnS]
      exact i64_id (by omega) (by omega)
    · have g : i = l.length := by simp at g; omega
      rw [hfull g]
      repeat ((conv => whnf); first | refine Br.t ?_ | refine Br.f ?_ | refine ⟨rfl, ?_⟩)
      conv => whnf
      refine fin (target := []) rfl (Nat.zero_le _) (by simp) rfl rfl
  · have es : startC p = cfgZ := by unfold startC; rw [if_neg h0]
    rw [es] at c0
    rw [if_neg h0, if_neg h0]
    repeat ((conv => whnf); first | refine Br.t ?_ | refine Br.f ?_ | refine ⟨rfl, ?_⟩)
    conv => whnf
    refine CallW.mono (c0.pure _ rfl rfl) ?_
    rintro r st' ⟨rfl, rfl⟩
    repeat ((conv => whnf); first | refine Br.t ?_ | refine Br.f ?_ | refine ⟨rfl, ?_⟩)
    conv => whnf
    refine Br.mk (fun _ => ?_) (fun h => ?_)
    · repeat ((conv => whnf); first | refine Br.t ?_ | refine Br.f ?_ | refine ⟨rfl, ?_⟩)
      conv => whnf
      refine fin (target := []) rfl (Nat.zero_le _) (by simp) rfl rfl
    · exact absurd (by simpa using h) h0
theorem held_apart (c : Cfg) {a b : Nat} (h : a ≠ b) : held c (a : Int) &&& held c (b : Int) = 0 := by
  apply Nat.eq_of_testBit_eq
  intro i
  rw [Nat.testBit_and, Nat.zero_testBit, held_bit, held_bit]
  rw [Bool.eq_false_iff]
  intro hh
  rw [Bool.and_eq_true, decide_eq_true_eq, decide_eq_true_eq] at hh
  omega
def rlS (x : List (Nat × V)) : List V := mkS 57 ([(5, .ptr 1 0 0 0)] ++ x)
set_option maxHeartbeats 1000000 in
theorem rl_in (p : Pg) (c : Cfg) (hc : OkC p c) (a : Nat) (ha : a ≤ 1000) :
    W Try.prog G0 0 (.loop (lp Try.f12 1)) (fun e s' => e = .exit 2 ∧ s' = ⟨rlS [(7, .i (.int .i64 a))], [pgB p, cfgB c]⟩) ⟨rlS [(7, .i (.int .i64 a)), (8, .i (.int .i64 0))], [pgB p, cfgB c]⟩ := by
  have hn := hc.n.2
  refine W.weak (loop_ok (α := Nat) (fun b => ⟨rlS [(7, .i (.int .i64 a)), (8, .i (.int .i64 b))], [pgB p, cfgB c]⟩)
    (fun b => b ≤ c.ths.length) (fun b => c.ths.length - b) 0 (Nat.zero_le _) (Le.refl _ _) (fun b hb => wpx_ok (own := own0) _ _ _ ?_))
  repeat ((conv => whnf); first | refine Br.t ?_ | refine Br.f ?_ | refine ⟨rfl, ?_⟩)
  conv => whnf
  refine Br.mk (fun g => ?_) (fun g => ?_)
  · have g : b < c.ths.length := by simpa using g
    by_cases hab : a = b
    · repeat ((conv => whnf); first | refine Br.t ?_ | refine Br.f ?_ | refine ⟨rfl, ?_⟩)
      conv => whnf
      refine draw_ok (own := own0) [] [] [] rfl (by kernel_rfl) (Nat.zero_le _) ?_
      repeat ((conv => whnf); first | refine Br.t ?_ | refine Br.f ?_ | refine ⟨rfl, ?_⟩)
      conv => whnf
      refine Br.mk (fun h => by simp [hab] at h) (fun _ => ?_)
      repeat ((conv => whnf); first | refine Br.t ?_ | refine Br.f ?_ | refine ⟨rfl, ?_⟩)
      conv => whnf
      refine ⟨by repeat ((conv => whnf); first | exact trivial | refine ⟨rfl, ?_⟩), trivial, ?_⟩
      conv => whnf
      repeat ((conv => whnf); first | refine Br.t ?_ | refine Br.f ?_ | refine ⟨rfl, ?_⟩)
      conv => whnf
      refine ⟨b + 1, by omega, by omega, Le.slots ?_⟩
      simp [leS, mkS, rlS]
      exact i64_id (by omega) (by omega)
    · · have h1 := held_ok c (a : Int) (by omega)
        have h2 := held_ok c (b : Int) (by omega)
        have e := and32' (held_lt c (a : Int)) (held_lt c (b : Int))
        rw [held_apart c hab] at e
        obtain ⟨u, hu⟩ : ∃ u, u = held c (a : Int) := ⟨_, rfl⟩
        obtain ⟨v, hv⟩ : ∃ v, v = held c (b : Int) := ⟨_, rfl⟩
        rw [← hu] at h1 e
        rw [← hv] at h2 e
        repeat ((conv => whnf); first | refine Br.t ?_ | refine Br.f ?_ | refine ⟨rfl, ?_⟩)
        conv => whnf
        refine draw_ok (own := own0) [] [] [(.i (.int .u32 (u : Nat)), [pgB p, cfgB c]), (.i (.int .u32 (v : Nat)), [pgB p, cfgB c])] rfl (by kernel_rfl) (Nat.zero_le _) ?_
        repeat ((conv => whnf); first | refine Br.t ?_ | refine Br.f ?_ | refine ⟨rfl, ?_⟩)
        conv => whnf
        refine Br.mk (fun _ => ?_) (fun h => by simp at h; omega)
        repeat ((conv => whnf); first | refine Br.t ?_ | refine Br.f ?_ | refine ⟨rfl, ?_⟩)
        conv => whnf
        refine ⟨h1.pure _ rfl rfl, ?_⟩
        repeat ((conv => whnf); first | refine Br.t ?_ | refine Br.f ?_ | refine ⟨rfl, ?_⟩)
        conv => whnf
        refine ⟨h2.pure _ rfl rfl, ?_⟩
        repeat ((conv => whnf); first | refine Br.t ?_ | refine Br.f ?_ | refine ⟨rfl, ?_⟩)
        conv => whnf
        rw [e]
        repeat ((conv => whnf); first | refine Br.t ?_ | refine Br.f ?_ | refine ⟨rfl, ?_⟩)
        conv => whnf
        refine ⟨by repeat ((conv => whnf); first | exact trivial | refine ⟨rfl, ?_⟩), trivial, ?_⟩
        conv => whnf
        repeat ((conv => whnf); first | refine Br.t ?_ | refine Br.f ?_ | refine ⟨rfl, ?_⟩)
        conv => whnf
        refine ⟨b + 1, by omega, by omega, Le.slots ?_⟩
        simp [leS, mkS, rlS]
        exact i64_id (by omega) (by omega)
  · have g : b = c.ths.length := by simp at g; omega
    repeat ((conv => whnf); first | refine Br.t ?_ | refine Br.f ?_ | refine ⟨rfl, ?_⟩)
    conv => whnf
    exact ⟨_, Le.slots (by simp [leS, mkS, rlS]), rfl, rfl⟩
set_option maxHeartbeats 2000000 in
theorem racelocks (p : Pg) (hp0 : okPg p) (l : List (Int × Bool)) (hl : okL l) : CallW Try.prog G0 12 [pgV p, .i (.sl (l.map encP))] [] (fun r st' => r = .i (.bool true) ∧ st' = []) := by
  refine call_of_bodyF 0 (Nat.le_refl _) Try.func12 rfl (fun a w => Try.call12 a w) (wpx_ok (own := own0) _ _ _ ?_)
  unfold okL at hl
  repeat ((conv => whnf); first | refine Br.t ?_ | refine Br.f ?_ | refine ⟨rfl, ?_⟩)
  conv => whnf
  refine CallW.mono (raceawake.pure _ rfl rfl) ?_
  rintro r st' ⟨rfl, rfl⟩
  repeat ((conv => whnf); first | refine Br.t ?_ | refine Br.f ?_ | refine ⟨rfl, ?_⟩)
  conv => whnf
  refine CallW.mono ((small16 p hp0).pure _ rfl rfl) ?_
  rintro r st' ⟨rfl, rfl⟩
  repeat ((conv => whnf); first | refine Br.t ?_ | refine Br.f ?_ | refine ⟨rfl, ?_⟩)
  conv => whnf
  refine Br.mk (fun z => ?_) (fun z => ?_)
  · repeat ((conv => whnf); first | refine Br.t ?_ | refine Br.f ?_ | refine ⟨rfl, ?_⟩)
    conv => whnf
    refine CallW.mono (raceawake.pure _ rfl rfl) ?_
    rintro r st' ⟨rfl, rfl⟩
    repeat ((conv => whnf); first | refine Br.t ?_ | refine Br.f ?_ | refine ⟨rfl, ?_⟩)
    conv => whnf
    refine fin (target := []) rfl (Nat.zero_le _) (by simp) rfl rfl
  · repeat ((conv => whnf); first | refine Br.t ?_ | refine Br.f ?_ | refine ⟨rfl, ?_⟩)
    conv => whnf
    refine Br.mk (fun z2 => ?_) (fun z2 => ?_)
    · repeat ((conv => whnf); first | refine Br.t ?_ | refine Br.f ?_ | refine ⟨rfl, ?_⟩)
      conv => whnf
      refine CallW.mono (raceawake.pure _ rfl rfl) ?_
      rintro r st' ⟨rfl, rfl⟩
      repeat ((conv => whnf); first | refine Br.t ?_ | refine Br.f ?_ | refine ⟨rfl, ?_⟩)
      conv => whnf
      refine fin (target := []) rfl (Nat.zero_le _) (by simp) rfl rfl
    · have hll : l.length ≤ 300 := by simp at z2; omega
      have cr := runs_ok p hp0 l (by omega)
      unfold runsV at cr
      by_cases h0 : (chk p).2.2 = 0
      · have hp := chk_zero h0
        rw [if_pos h0, if_pos h0] at cr
        have hc : OkC p (runC p cfg0 l) := runC_ok hp _ (cfg0_ok hp)
        obtain ⟨c, hcc⟩ : ∃ c, c = runC p cfg0 l := ⟨_, rfl⟩
        rw [← hcc] at cr hc
        have hn := hc.n.2
        repeat ((conv => whnf); first | refine Br.t ?_ | refine Br.f ?_ | refine ⟨rfl, ?_⟩)
        conv => whnf
        refine CallW.mono (cr.pure _ rfl rfl) ?_
        rintro r st' ⟨rfl, rfl⟩
        repeat ((conv => whnf); first | refine Br.t ?_ | refine Br.f ?_ | refine ⟨rfl, ?_⟩)
        conv => whnf
        refine loop_ok (α := Nat) (fun a => ⟨rlS [(7, .i (.int .i64 a))], [pgB p, cfgB c]⟩)
          (fun a => a ≤ c.ths.length) (fun a => c.ths.length - a) 0 (Nat.zero_le _) (Le.slots (by simp [leS, mkS, rlS])) (fun a ha => wpx_ok (own := own0) _ _ _ ?_)
        repeat ((conv => whnf); first | refine Br.t ?_ | refine Br.f ?_ | refine ⟨rfl, ?_⟩)
        conv => whnf
        refine Br.mk (fun g => ?_) (fun g => ?_)
        · have g : a < c.ths.length := by simpa using g
          repeat ((conv => whnf); first | refine Br.t ?_ | refine Br.f ?_ | refine ⟨rfl, ?_⟩)
          conv => whnf
          refine W.le (s' := ⟨rlS [(7, .i (.int .i64 a)), (8, .i (.int .i64 0))], [pgB p, cfgB c]⟩) (Le.slots (by simp [leS, mkS, rlS])) (W.mono (rl_in p c hc a (by omega)) ?_)
          rintro e s' ⟨rfl, rfl⟩
          repeat ((conv => whnf); first | refine Br.t ?_ | refine Br.f ?_ | refine ⟨rfl, ?_⟩)
          conv => whnf
          refine ⟨a + 1, by omega, by omega, Le.slots ?_⟩
          simp [leS, mkS, rlS]
          exact i64_id (by omega) (by omega)
        · repeat ((conv => whnf); first | refine Br.t ?_ | refine Br.f ?_ | refine ⟨rfl, ?_⟩)
          conv => whnf
          refine fin (target := []) rfl (Nat.zero_le _) (by simp) rfl rfl
      · rw [if_neg h0, if_neg h0] at cr
        repeat ((conv => whnf); first | refine Br.t ?_ | refine Br.f ?_ | refine ⟨rfl, ?_⟩)
        conv => whnf
        refine CallW.mono (cr.pure _ rfl rfl) ?_
        rintro r st' ⟨rfl, rfl⟩
        repeat ((conv => whnf); first | refine Br.t ?_ | refine Br.f ?_ | refine ⟨rfl, ?_⟩)
        conv => whnf
        refine fin (target := []) rfl (Nat.zero_le _) (by simp) rfl rfl
end Go.Proofs.Ytiikndppckjmhaa.Am
