/- Contract: who races may do a step, each of both; whoever does it first, the same comes of it. -/
import Derived.Test.YtiikndppckjmhaaRbA
namespace Go.Proofs.Ytiikndppckjmhaa.Am
set_option autoImplicit false
set_option linter.unusedVariables false
set_option linter.unusedSimpArgs false
set_option maxRecDepth 10000
set_option pp.maxSteps 3000
set_option pp.proofs false
theorem acc_node {p : Pg} {c : Cfg} {u : Nat} (h : isAcc p c u = true) : lives c u = true ∧ ((atN p c u).1 = 1 ∨ (atN p c u).1 = 2) ∧ ndAt p c u = atN p c u := by
  unfold isAcc at h
  simp only [Bool.and_eq_true, Bool.or_eq_true, decide_eq_true_eq] at h
  refine ⟨h.1, h.2, ?_⟩
  unfold atN
  rw [if_pos h.1]
theorem acc_enab {p : Pg} {c : Cfg} {u : Nat} (h : isAcc p c u = true) : enab p c u = true := by
  obtain ⟨h1, h2, h3⟩ := acc_node h
  unfold enab
  rw [h1, h3]
  rcases h2 with h2 | h2 <;> simp [h2]
theorem step_acc {p : Pg} {c : Cfg} {u : Nat} {th : Th} (hth : c.ths[u]? = some th) (h : isAcc p c u = true) (way : Bool) : stepC p c u way = setTh c u ⟨goTo th.stk (atN p c u).2.2.1.toNat, th.sl⟩ := by
  obtain ⟨h1, h2, h3⟩ := acc_node h
  unfold stepC
  rw [if_pos (acc_enab h), thAt_nat, hth, h3]
  simp only [Int.toNat_natCast]
  unfold doC
  rcases h2 with h2 | h2 <;> simp [h2, setTh]
theorem step_swap {p : Pg} {c : Cfg} {a b : Nat} (ha : a < c.ths.length) (hb : b < c.ths.length) (hab : a ≠ b) (h1 : isAcc p c a = true) (h2 : isAcc p c b = true) : stepC p (stepC p c a false) b false = stepC p (stepC p c b false) a false := by
  have e1 := own_th (p := p) (c := c) (a : Int) false hb (by omega)
  have e2 := own_th (p := p) (c := c) (b : Int) false ha (by omega)
  obtain ⟨ta, hta⟩ : ∃ th, c.ths[a]? = some th := ⟨_, List.getElem?_eq_getElem ha⟩
  obtain ⟨tb, htb⟩ : ∃ th, c.ths[b]? = some th := ⟨_, List.getElem?_eq_getElem hb⟩
  obtain ⟨s1, _⟩ := same_tc (p := p) e1
  obtain ⟨s2, _⟩ := same_tc (p := p) e2
  obtain ⟨_, n1⟩ := same_at (p := p) e1
  obtain ⟨_, n2⟩ := same_at (p := p) e2
  rw [step_acc (e1.trans htb) (s1.trans h2), step_acc (e2.trans hta) (s2.trans h1), n1, n2, step_acc hta h1, step_acc htb h2]
  unfold setTh
  simp only
  rw [List.set_comm _ _ hab]
set_option maxHeartbeats 4000000 in
theorem raceboth (p : Pg) (hp0 : okPg p) (l : List (Int × Bool)) (hl : okL l) : CallW Try.prog G0 10 [pgV p, .i (.sl (l.map encP))] [] (fun r st' => r = .i (.bool true) ∧ st' = []) := by
  refine call_of_bodyF 0 (Nat.le_refl _) Try.func10 rfl (fun a w => Try.call10 a w) (wpx_ok (own := own0) _ _ _ ?_)
  unfold okL at hl
  repeat ((conv => whnf); first | refine Br.t ?_ | refine Br.f ?_ | refine ⟨rfl, ?_⟩)
  conv => whnf
  refine CallW.mono (raceawake.pure _ rfl rfl) ?_
  rintro r st' ⟨rfl, rfl⟩
  repeat ((conv => whnf); first | refine Br.t ?_ | refine Br.f ?_ | refine ⟨rfl, ?_⟩)
  conv => whnf
  refine CallW.mono ((small16 p hp0).pure _ rfl rfl) ?_
  rintro r st' ⟨rfl, rfl⟩
  repeat ((conv => whnf); first | refine Br.t ?_ | refine Br.f ?_ | refine ⟨rfl, ?_⟩)
  conv => whnf
  refine Br.mk (fun z => ?_) (fun z => ?_)
  · repeat ((conv => whnf); first | refine Br.t ?_ | refine Br.f ?_ | refine ⟨rfl, ?_⟩)
    conv => whnf
    refine CallW.mono (raceawake.pure _ rfl rfl) ?_
    rintro r st' ⟨rfl, rfl⟩
    repeat ((conv => whnf); first | refine Br.t ?_ | refine Br.f ?_ | refine ⟨rfl, ?_⟩)
    conv => whnf
    refine fin (target := []) rfl (Nat.zero_le _) (by simp) rfl rfl
  · repeat ((conv => whnf); first | refine Br.t ?_ | refine Br.f ?_ | refine ⟨rfl, ?_⟩)
    conv => whnf
    refine Br.mk (fun z2 => ?_) (fun z2 => ?_)
    · repeat ((conv => whnf); first | refine Br.t ?_ | refine Br.f ?_ | refine ⟨rfl, ?_⟩)
      conv => whnf
      refine CallW.mono (raceawake.pure _ rfl rfl) ?_
      rintro r st' ⟨rfl, rfl⟩
      repeat ((conv => whnf); first | refine Br.t ?_ | refine Br.f ?_ | refine ⟨rfl, ?_⟩)
      conv => whnf
      refine fin (target := []) rfl (Nat.zero_le _) (by simp) rfl rfl
    · have hll : l.length ≤ 300 := by simp at z2; omega
      have cr := runs_ok p hp0 l (by omega)
      unfold runsV at cr
      by_cases h0 : (chk p).2.2 = 0
      · have hp := chk_zero h0
        rw [if_pos h0, if_pos h0] at cr
        have hc : OkC p (runC p cfg0 l) := runC_ok hp _ (cfg0_ok hp)
        obtain ⟨c, hcc⟩ : ∃ c, c = runC p cfg0 l := ⟨_, rfl⟩
        rw [← hcc] at cr hc
        have hn := hc.n.2
        have cf := first_ok p hp c hc
        have cp := fun a b g => pair_ok p hp c hc a b g
        obtain ⟨o, ho⟩ : ∃ o, o = firstR (touches p c) := ⟨_, rfl⟩
        rw [← ho] at cf
        repeat ((conv => whnf); first | refine Br.t ?_ | refine Br.f ?_ | refine ⟨rfl, ?_⟩)
        conv => whnf
        refine CallW.mono (cr.pure _ rfl rfl) ?_
        rintro r st' ⟨rfl, rfl⟩
        repeat ((conv => whnf); first | refine Br.t ?_ | refine Br.f ?_ | refine ⟨rfl, ?_⟩)
        conv => whnf
        refine CallW.mono (cf.pure _ rfl (by rcases o with _ | ⟨x, y⟩ <;> rfl)) ?_
        rintro r st' ⟨rfl, rfl⟩
        cases o with
        | none =>
          have cq := cp 0 1 0
          rw [pairB_none ho.symm] at cq
          repeat ((conv => whnf); first | refine Br.t ?_ | refine Br.f ?_ | refine ⟨rfl, ?_⟩)
          conv => whnf
          refine CallW.mono (cq.pure _ rfl rfl) ?_
          rintro r st' ⟨rfl, rfl⟩
          repeat ((conv => whnf); first | refine Br.t ?_ | refine Br.f ?_ | refine ⟨rfl, ?_⟩)
          conv => whnf
          refine fin (target := []) rfl (Nat.zero_le _) (by simp) rfl rfl
        | some xy =>
          obtain ⟨x, y⟩ := xy
          obtain ⟨m1, m2, m3, m4⟩ := firstR_some (touchL_pw p c _) ho.symm
          obtain ⟨i1, i2, i3⟩ := first_in_range m1
          obtain ⟨j1, j2, j3⟩ := first_in_range m2
          have c1 := cp x.1 y.1 x.2.1
          rw [pairB_of m1 m2 m3] at c1
          have c2 := cp y.1 x.1 x.2.1
          have hsy : pairB (touches p c) y.1 x.1 x.2.1 = true := by
            rw [(agB_iff.1 m3).2.1]
            exact pairB_of m2 m1 (by rw [agB_symm]; exact m3)
          rw [hsy] at c2
          have c3 := cp x.1 x.1 x.2.1
          rw [pairB_self] at c3
          have c4 := enabled_ok p hp c hc x.1
          rw [acc_enab i2] at c4
          have c5 := enabled_ok p hp c hc y.1
          rw [acc_enab j2] at c5
          have hne : x.1 ≠ y.1 := by omega
          have c6 := at_ok p hp c hc y.1
          have c7 := semstep p hp c hc x.1 false
          have c8 := at_ok p hp _ (stepC_ok hp hc (x.1 : Int) false) y.1
          have hsw := step_swap (p := p) i1 j1 hne i2 j2
          have hown := own_th (p := p) (c := c) (x.1 : Int) false j1 (by omega)
          rw [(same_at (p := p) hown).1, (same_at (p := p) hown).2] at c8
          have c9 := semstep p hp _ (stepC_ok hp hc (x.1 : Int) false) y.1 false
          have c10 := semstep p hp c hc y.1 false
          have c11 := semstep p hp _ (stepC_ok hp hc (y.1 : Int) false) x.1 false
          have c12 := plain_ok p hp _ (stepC_ok hp (stepC_ok hp hc (x.1 : Int) false) (y.1 : Int) false)
          have c13 := rsame_refl p hp _ (stepC_ok hp (stepC_ok hp hc (x.1 : Int) false) (y.1 : Int) false)
          rw [← hsw] at c11
          obtain ⟨d1, hd1⟩ : ∃ d, d = stepC p c x.1 false := ⟨_, rfl⟩
          rw [← hd1] at c7 c8 c9 c11 c12 c13
          obtain ⟨d2, hd2⟩ : ∃ d, d = stepC p c y.1 false := ⟨_, rfl⟩
          rw [← hd2] at c10 c11
          obtain ⟨d3, hd3⟩ : ∃ d, d = stepC p d1 y.1 false := ⟨_, rfl⟩
          rw [← hd3] at c9 c11 c12 c13
          obtain ⟨nd, hnd⟩ : ∃ n, n = atN p c y.1 := ⟨_, rfl⟩
          rw [← hnd] at c6 c8
          rw [(acc_node j2).1] at c6 c8
          repeat ((conv => whnf); first | refine Br.t ?_ | refine Br.f ?_ | refine ⟨rfl, ?_⟩)
          conv => whnf
          refine Br.mk (fun h => by simp at h; omega) (fun _ => ?_)
          repeat ((conv => whnf); first | refine Br.t ?_ | refine Br.f ?_ | refine ⟨rfl, ?_⟩)
          conv => whnf
          refine CallW.mono (c1.pure _ rfl rfl) ?_
          rintro r st' ⟨rfl, rfl⟩
          repeat ((conv => whnf); first | refine Br.t ?_ | refine Br.f ?_ | refine ⟨rfl, ?_⟩)
          conv => whnf
          refine CallW.mono (c2.pure _ rfl rfl) ?_
          rintro r st' ⟨rfl, rfl⟩
          repeat ((conv => whnf); first | refine Br.t ?_ | refine Br.f ?_ | refine ⟨rfl, ?_⟩)
          conv => whnf
          refine CallW.mono (c3.pure _ rfl rfl) ?_
          rintro r st' ⟨rfl, rfl⟩
          repeat ((conv => whnf); first | refine Br.t ?_ | refine Br.f ?_ | refine ⟨rfl, ?_⟩)
          conv => whnf
          refine CallW.mono (c4.pure _ rfl rfl) ?_
          rintro r st' ⟨rfl, rfl⟩
          repeat ((conv => whnf); first | refine Br.t ?_ | refine Br.f ?_ | refine ⟨rfl, ?_⟩)
          conv => whnf
          refine CallW.mono (c5.pure _ rfl rfl) ?_
          rintro r st' ⟨rfl, rfl⟩
          repeat ((conv => whnf); first | refine Br.t ?_ | refine Br.f ?_ | refine ⟨rfl, ?_⟩)
          conv => whnf
          refine CallW.mono (c6.pure _ rfl rfl) ?_
          rintro r st' ⟨rfl, rfl⟩
          repeat ((conv => whnf); first | refine Br.t ?_ | refine Br.f ?_ | refine ⟨rfl, ?_⟩)
          conv => whnf
          refine draw_okG (own := own0) [11, 12] [(3, 12), (4, 12), (7, 12), (10, 14)] [(0, 12), (1, 12), (2, 12), (5, 12), (6, 12), (8, 12), (9, 12), (10, 12)] [(cfgV d1, [pgB p, cfgB c, ndB' nd]), (.tup [ndV nd, .i (.bool true)], [pgB p, cfgB c, ndB' nd])] rfl (by kernel_rfl) (by kernel_rfl) (Nat.zero_le _) ?_
          repeat ((conv => whnf); first | refine Br.t ?_ | refine Br.f ?_ | refine ⟨rfl, ?_⟩)
          conv => whnf
          refine ⟨c7.pure _ rfl rfl, ?_⟩
          repeat ((conv => whnf); first | refine Br.t ?_ | refine Br.f ?_ | refine ⟨rfl, ?_⟩)
          conv => whnf
          refine ⟨c8.pure _ rfl rfl, ?_⟩
          repeat ((conv => whnf); first | refine Br.t ?_ | refine Br.f ?_ | refine ⟨rfl, ?_⟩)
          conv => whnf
          refine ⟨by repeat ((conv => whnf); first | exact trivial | refine ⟨rfl, ?_⟩), ?_, by repeat ((conv => whnf); first | exact trivial | refine ⟨⟨_, rfl⟩, ?_⟩), ?_⟩
          · repeat ((conv => whnf); first | exact trivial | refine ⟨by (conv => whnf); first | exact ⟨rfl, rfl⟩ | exact ⟨rfl, rfl, rfl⟩ | exact c7.pure _ rfl rfl | exact c8.pure _ rfl rfl, ?_⟩)
          conv => whnf
          repeat ((conv => whnf); first | refine Br.t ?_ | refine Br.f ?_ | refine ⟨rfl, ?_⟩)
          conv => whnf
          refine draw_ok (own := own0) [] [] [(cfgV d1, [pgB p, cfgB c, ndB' nd, ndB' nd]), (cfgV d3, [pgB p, cfgB c, ndB' nd, ndB' nd]), (rcV d3, [pgB p, cfgB c, ndB' nd, ndB' nd]), (cfgV d2, [pgB p, cfgB c, ndB' nd, ndB' nd]), (cfgV d3, [pgB p, cfgB c, ndB' nd, ndB' nd]), (rcV d3, [pgB p, cfgB c, ndB' nd, ndB' nd]), (.i (.bool true), [pgB p, cfgB c, ndB' nd, ndB' nd])] rfl (by kernel_rfl) (Nat.zero_le _) ?_
          repeat ((conv => whnf); first | refine Br.t ?_ | refine Br.f ?_ | refine ⟨rfl, ?_⟩)
          conv => whnf
          refine ⟨by kernel_rfl, ?_⟩
          repeat ((conv => whnf); first | refine Br.t ?_ | refine Br.f ?_ | refine ⟨rfl, ?_⟩)
          conv => whnf
          refine Br.mk (fun _ => ?_) (fun h => by simp at h)
          repeat ((conv => whnf); first | refine Br.t ?_ | refine Br.f ?_ | refine ⟨rfl, ?_⟩)
          conv => whnf
          refine ⟨c7.pure _ rfl rfl, ?_⟩
          repeat ((conv => whnf); first | refine Br.t ?_ | refine Br.f ?_ | refine ⟨rfl, ?_⟩)
          conv => whnf
          refine ⟨c9.pure _ rfl rfl, ?_⟩
          repeat ((conv => whnf); first | refine Br.t ?_ | refine Br.f ?_ | refine ⟨rfl, ?_⟩)
          conv => whnf
          refine ⟨c12.pure _ rfl rfl, ?_⟩
          repeat ((conv => whnf); first | refine Br.t ?_ | refine Br.f ?_ | refine ⟨rfl, ?_⟩)
          conv => whnf
          refine ⟨c10.pure _ rfl rfl, ?_⟩
          repeat ((conv => whnf); first | refine Br.t ?_ | refine Br.f ?_ | refine ⟨rfl, ?_⟩)
          conv => whnf
          refine ⟨c11.pure _ rfl rfl, ?_⟩
          repeat ((conv => whnf); first | refine Br.t ?_ | refine Br.f ?_ | refine ⟨rfl, ?_⟩)
          conv => whnf
          refine ⟨c12.pure _ rfl rfl, ?_⟩
          repeat ((conv => whnf); first | refine Br.t ?_ | refine Br.f ?_ | refine ⟨rfl, ?_⟩)
          conv => whnf
          refine ⟨c13.pure _ rfl rfl, ?_⟩
          repeat ((conv => whnf); first | refine Br.t ?_ | refine Br.f ?_ | refine ⟨rfl, ?_⟩)
          conv => whnf
          refine ⟨by repeat ((conv => whnf); first | exact trivial | refine ⟨rfl, ?_⟩), trivial, ?_⟩
          conv => whnf
          repeat ((conv => whnf); first | refine Br.t ?_ | refine Br.f ?_ | refine ⟨rfl, ?_⟩)
          conv => whnf
          refine fin (target := []) rfl (Nat.zero_le _) (by simp) rfl rfl
      · rw [if_neg h0, if_neg h0] at cr
        repeat ((conv => whnf); first | refine Br.t ?_ | refine Br.f ?_ | refine ⟨rfl, ?_⟩)
        conv => whnf
        refine CallW.mono (cr.pure _ rfl rfl) ?_
        rintro r st' ⟨rfl, rfl⟩
        repeat ((conv => whnf); first | refine Br.t ?_ | refine Br.f ?_ | refine ⟨rfl, ?_⟩)
        conv => whnf
        refine fin (target := []) rfl (Nat.zero_le _) (by simp) rfl rfl
end Go.Proofs.Ytiikndppckjmhaa.Am
