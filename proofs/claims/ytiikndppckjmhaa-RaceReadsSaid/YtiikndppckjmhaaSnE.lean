/- Contract: a step of a thread changes nothing of another one. -/
import Derived.Test.YtiikndppckjmhaaSnD
namespace Go.Proofs.Ytiikndppckjmhaa.Am
set_option autoImplicit false
set_option linter.unusedVariables false
set_option linter.unusedSimpArgs false
set_option maxRecDepth 10000
set_option pp.maxSteps 3000
set_option pp.proofs false
theorem step_no {p : Pg} {c : Cfg} (who : Int) (way : Bool) (h : enab p c who = false) : stepC p c who way = c := by
  unfold stepC; rw [if_neg (by rw [h]; simp)]
theorem own_th {p : Pg} {c : Cfg} (who : Int) (way : Bool) {t : Nat} (ht : t < c.ths.length) (hne : (t : Int) ≠ who) : (stepC p c who way).ths[t]? = c.ths[t]? := by
  unfold stepC
  split
  · rename_i he
    cases hth : thAt c who with
    | none => rfl
    | some th =>
      simp only
      have hlive : lives c who = true := by
        unfold enab at he
        simp only [Bool.and_eq_true] at he
        exact he.1
      have hw : 0 ≤ who := by
        refine Classical.byContradiction fun h => ?_
        rw [lives_none (by omega)] at hlive; cases hlive
      exact doC_ths ht (by omega)
  · rfl
theorem own_held {p : Pg} {c : Cfg} (hp : PgOk p) (hc : OkC p c) (who : Int) (way : Bool) {t : Nat} (hne : (t : Int) ≠ who) : held (stepC p c who way) (t : Int) = held c (t : Int) := by
  apply Nat.eq_of_testBit_eq
  intro i
  have h1 := grows hp hc who way t (fun h => hne h.1) i
  have h2 := shrinks hp hc who way t (fun h => hne h.1) i
  cases ha : (held (stepC p c who way) (t : Int)).testBit i <;> cases hb : (held c (t : Int)).testBit i
  · rfl
  · rw [h2 hb] at ha; cases ha
  · rw [h1 ha] at hb; cases hb
  · rfl
def soS (l : List (Int × Bool)) (i : Nat) (x : List (Nat × V)) : List V := mkS 153 ([(1, .i (.sl (l.map encP))), (2, .ptr 0 0 0 0), (5, .ptr 1 0 0 0), (7, .i (.int .i64 i))] ++ x)
def soX (t : Nat) : List (Nat × V) := [(8, .ptr 2 0 0 0), (10, .ptr 3 0 0 0), (11, .ptr 4 0 0 0), (12, .i (.int .i64 t))]
def soB (p : Pg) (c d : Cfg) : List Ob := [pgB p, cfgB c, rcB c, cfgB d, rcB d]
set_option maxHeartbeats 1000000 in
theorem own_k (p : Pg) (c d : Cfg) (l : List (Int × Bool)) (i t : Nat) (th : Th) (hth : c.ths[t]? = some th) (htd : d.ths[t]? = some th) (hn : c.ths.length ≤ 8) (hnd : d.ths.length ≤ 8) (hh : th.stk.length ≤ 16) :
    W Try.prog G0 0 (.loop (lp Try.f13 2)) (fun e s' => e = .exit 4 ∧ s' = ⟨soS l i (soX t), soB p c d⟩) ⟨soS l i (soX t ++ [(13, .i (.int .i64 0))]), soB p c d⟩ := by
  have htl := lt_some hth
  have htl2 := lt_some htd
  refine W.weak (loop_ok (α := Nat) (fun j => ⟨soS l i (soX t ++ [(13, .i (.int .i64 j))]), soB p c d⟩)
    (fun j => j ≤ th.stk.length) (fun j => th.stk.length - j) 0 (Nat.zero_le _) (Le.refl _ _) (fun j hj => wpx_ok (own := own0) _ _ _ ?_))
  repeat ((conv => whnf); first | refine Br.t ?_ | refine Br.f ?_ | refine ⟨rfl, ?_⟩)
  conv => whnf
  rw [stkI_get hth]
  refine ⟨⟨by omega, by simp; omega, rfl⟩, ?_⟩
  repeat ((conv => whnf); first | refine Br.t ?_ | refine Br.f ?_ | refine ⟨rfl, ?_⟩)
  conv => whnf
  refine Br.mk (fun g => ?_) (fun g => ?_)
  · have g : j < th.stk.length := by simpa using g
    obtain ⟨x, hx⟩ : ∃ x, x = th.stk[j] := ⟨_, rfl⟩
    have ex : (th.stk.map encFr).getD (j : Int).toNat [] = encFr x := by rw [hx]; exact getD_enc g
    repeat ((conv => whnf); first | refine Br.t ?_ | refine Br.f ?_ | refine ⟨rfl, ?_⟩)
    conv => whnf
    refine draw_ok (own := own0) [] [] [] rfl (by kernel_rfl) (Nat.zero_le _) ?_
    repeat ((conv => whnf); first | refine Br.t ?_ | refine Br.f ?_ | refine ⟨rfl, ?_⟩)
    conv => whnf
    rw [stkI_get hth]
    refine ⟨⟨by omega, by simp; omega, rfl⟩, ?_⟩
    repeat ((conv => whnf); first | refine Br.t ?_ | refine Br.f ?_ | refine ⟨rfl, ?_⟩)
    conv => whnf
    rw [ex]
    refine ⟨⟨by omega, by simp; omega, rfl⟩, ?_⟩
    repeat ((conv => whnf); first | refine Br.t ?_ | refine Br.f ?_ | refine ⟨rfl, ?_⟩)
    conv => whnf
    rw [stkI_get htd]
    refine ⟨⟨by omega, by simp; omega, rfl⟩, ?_⟩
    repeat ((conv => whnf); first | refine Br.t ?_ | refine Br.f ?_ | refine ⟨rfl, ?_⟩)
    conv => whnf
    rw [ex]
    refine ⟨⟨by omega, by simp; omega, rfl⟩, ?_⟩
    repeat ((conv => whnf); first | refine Br.t ?_ | refine Br.f ?_ | refine ⟨rfl, ?_⟩)
    conv => whnf
    refine ⟨by kernel_rfl, ?_⟩
    repeat ((conv => whnf); first | refine Br.t ?_ | refine Br.f ?_ | refine ⟨rfl, ?_⟩)
    conv => whnf
    refine ⟨by repeat ((conv => whnf); first | exact trivial | refine ⟨rfl, ?_⟩), trivial, ?_⟩
    conv => whnf
    refine Br.mk (fun h => by simp at h) (fun _ => ?_)
    repeat ((conv => whnf); first | refine Br.t ?_ | refine Br.f ?_ | refine ⟨rfl, ?_⟩)
    conv => whnf
    refine ⟨j + 1, by omega, by omega, Le.slots ?_⟩
    simp [leS, mkS, soS, soX]
    exact i64_id (by omega) (by omega)
  · repeat ((conv => whnf); first | refine Br.t ?_ | refine Br.f ?_ | refine ⟨rfl, ?_⟩)
    conv => whnf
    exact ⟨_, Le.slots (by simp [leS, mkS, soS, soX]), rfl, rfl⟩


set_option maxHeartbeats 2000000 in
theorem own_t (p : Pg) (hp : PgOk p) (c : Cfg) (hc : OkC p c) (l : List (Int × Bool)) (hll : l.length ≤ 300) (i : Nat) (hi : i < l.length) (x : Int × Bool) (ex : (l.map encP).getD (i : Int).toNat [] = encP x) :
    W Try.prog G0 0 (.loop (lp Try.f13 1)) (fun e s' => e = .exit 2 ∧ s' = ⟨soS l i [(8, .ptr 2 0 0 0), (10, .ptr 3 0 0 0), (11, .ptr 4 0 0 0)], soB p c (stepC p c x.1 x.2)⟩)
      ⟨soS l i (soX 0), soB p c (stepC p c x.1 x.2)⟩ := by
  have hhe := fun t hne => own_held (t := t) hp hc x.1 x.2 hne
  have hth0 := fun t ht hne => own_th (p := p) (c := c) (t := t) x.1 x.2 ht hne
  have hd : OkC p (stepC p c x.1 x.2) := stepC_ok hp hc _ _
  obtain ⟨d, hdd⟩ : ∃ d, d = stepC p c x.1 x.2 := ⟨_, rfl⟩
  rw [← hdd] at hd ⊢
  simp only [← hdd] at hhe hth0
  have hdn := hd.n.2
  have hcn := hc.n.2
  have hpn := hp.n.2
  refine W.weak (loop_ok (α := Nat) (fun t => ⟨soS l i (soX t), soB p c d⟩)
    (fun t => t ≤ c.ths.length) (fun t => c.ths.length - t) 0 (Nat.zero_le _) (Le.refl _ _) (fun t ht => wpx_ok (own := own0) _ _ _ ?_))
  repeat ((conv => whnf); first | refine Br.t ?_ | refine Br.f ?_ | refine ⟨rfl, ?_⟩)
  conv => whnf
  refine Br.mk (fun g => ?_) (fun g => ?_)
  · have g : t < c.ths.length := by simpa using g
    repeat ((conv => whnf); first | refine Br.t ?_ | refine Br.f ?_ | refine ⟨rfl, ?_⟩)
    conv => whnf
    rw [ex]
    refine ⟨⟨by omega, by simp; omega, rfl⟩, ?_⟩
    repeat ((conv => whnf); first | refine Br.t ?_ | refine Br.f ?_ | refine ⟨rfl, ?_⟩)
    conv => whnf
    refine Br.mk (fun hw => ?_) (fun hw => ?_)
    · repeat ((conv => whnf); first | refine Br.t ?_ | refine Br.f ?_ | refine ⟨rfl, ?_⟩)
      conv => whnf
      refine ⟨t + 1, by omega, by omega, Le.slots ?_⟩
      simp [leS, mkS, soS, soX]
      exact i64_id (by omega) (by omega)
    · have hne : (t : Int) ≠ x.1 := by simpa using hw
      obtain ⟨th, hth⟩ : ∃ th, c.ths[t]? = some th := ⟨_, List.getElem?_eq_getElem g⟩
      have htd : d.ths[t]? = some th := by rw [hth0 t g hne]; exact hth
      have htl2 := lt_some htd
      have hh := (hc.th th (List.mem_of_getElem? hth)).h
      have h1 := held_ok c (t : Int) (by omega)
      have h2 := held_ok d (t : Int) (by omega)
      rw [hhe t hne] at h2
      obtain ⟨u, hu⟩ : ∃ u, u = held c (t : Int) := ⟨_, rfl⟩
      rw [← hu] at h1 h2
      repeat ((conv => whnf); first | refine Br.t ?_ | refine Br.f ?_ | refine ⟨rfl, ?_⟩)
      conv => whnf
      refine draw_ok (own := own0) [] [] [(.i (.int .u32 (u : Nat)), soB p c d), (.i (.int .u32 (u : Nat)), soB p c d)] rfl (by kernel_rfl) (Nat.zero_le _) ?_
      repeat ((conv => whnf); first | refine Br.t ?_ | refine Br.f ?_ | refine ⟨rfl, ?_⟩)
      conv => whnf
      rw [stkI_get hth]
      refine ⟨⟨by omega, by simp; omega, rfl⟩, ?_⟩
      repeat ((conv => whnf); first | refine Br.t ?_ | refine Br.f ?_ | refine ⟨rfl, ?_⟩)
      conv => whnf
      rw [stkI_get htd]
      refine ⟨⟨by omega, by simp; omega, rfl⟩, ?_⟩
      repeat ((conv => whnf); first | refine Br.t ?_ | refine Br.f ?_ | refine ⟨rfl, ?_⟩)
      conv => whnf
      refine Br.mk (fun h => by simp at h) (fun _ => ?_)
      repeat ((conv => whnf); first | refine Br.t ?_ | refine Br.f ?_ | refine ⟨rfl, ?_⟩)
      conv => whnf
      rw [slI_get hth]
      refine ⟨⟨by omega, by simp; omega, rfl⟩, ?_⟩
      repeat ((conv => whnf); first | refine Br.t ?_ | refine Br.f ?_ | refine ⟨rfl, ?_⟩)
      conv => whnf
      rw [slI_get htd]
      refine ⟨⟨by omega, by simp; omega, rfl⟩, ?_⟩
      repeat ((conv => whnf); first | refine Br.t ?_ | refine Br.f ?_ | refine ⟨rfl, ?_⟩)
      conv => whnf
      refine Br.mk (fun h => by simp at h) (fun _ => ?_)
      repeat ((conv => whnf); first | refine Br.t ?_ | refine Br.f ?_ | refine ⟨rfl, ?_⟩)
      conv => whnf
      refine ⟨h1.pure _ rfl rfl, ?_⟩
      repeat ((conv => whnf); first | refine Br.t ?_ | refine Br.f ?_ | refine ⟨rfl, ?_⟩)
      conv => whnf
      refine ⟨h2.pure _ rfl rfl, ?_⟩
      repeat ((conv => whnf); first | refine Br.t ?_ | refine Br.f ?_ | refine ⟨rfl, ?_⟩)
      conv => whnf
      refine ⟨by repeat ((conv => whnf); first | exact trivial | refine ⟨rfl, ?_⟩), trivial, ?_⟩
      conv => whnf
      refine Br.mk (fun h => by simp at h) (fun _ => ?_)
      repeat ((conv => whnf); first | refine Br.t ?_ | refine Br.f ?_ | refine ⟨rfl, ?_⟩)
      conv => whnf
      have W2 := own_k p c d l i t th hth htd hcn hdn (by omega)
      refine W.le (Le.slots (sl' := soS l i (soX t ++ [(13, V.i (I.int .i64 0))])) (by simp [leS, mkS, soS, soX])) (W.mono W2 ?_)
      rintro e s' ⟨rfl, rfl⟩
      repeat ((conv => whnf); first | refine Br.t ?_ | refine Br.f ?_ | refine ⟨rfl, ?_⟩)
      conv => whnf
      refine ⟨t + 1, by omega, by omega, Le.slots ?_⟩
      simp [leS, mkS, soS, soX]
      exact i64_id (by omega) (by omega)
  · have g : t = c.ths.length := by simp at g; omega
    repeat ((conv => whnf); first | refine Br.t ?_ | refine Br.f ?_ | refine ⟨rfl, ?_⟩)
    conv => whnf
    exact ⟨_, Le.slots (by simp [leS, mkS, soS, soX]), rfl, rfl⟩
set_option maxHeartbeats 4000000 in
theorem semown (p : Pg) (hp0 : okPg p) (l : List (Int × Bool)) (hl : okL l) : CallW Try.prog G0 13 [pgV p, .i (.sl (l.map encP))] [] (fun r st' => r = .i (.bool true) ∧ st' = []) := by
  refine call_of_bodyF 0 (Nat.le_refl _) Try.func13 rfl (fun a w => Try.call13 a w) (wpx_ok (own := own0) _ _ _ ?_)
  unfold okL at hl
  repeat ((conv => whnf); first | refine Br.t ?_ | refine Br.f ?_ | refine ⟨rfl, ?_⟩)
  conv => whnf
  refine CallW.mono (semawake.pure _ rfl rfl) ?_
  rintro r st' ⟨rfl, rfl⟩
  repeat ((conv => whnf); first | refine Br.t ?_ | refine Br.f ?_ | refine ⟨rfl, ?_⟩)
  conv => whnf
  refine CallW.mono ((small16 p hp0).pure _ rfl rfl) ?_
  rintro r st' ⟨rfl, rfl⟩
  repeat ((conv => whnf); first | refine Br.t ?_ | refine Br.f ?_ | refine ⟨rfl, ?_⟩)
  conv => whnf
  refine Br.mk (fun z => ?_) (fun z => ?_)
  · repeat ((conv => whnf); first | refine Br.t ?_ | refine Br.f ?_ | refine ⟨rfl, ?_⟩)
    conv => whnf
    refine CallW.mono (semawake.pure _ rfl rfl) ?_
    rintro r st' ⟨rfl, rfl⟩
    repeat ((conv => whnf); first | refine Br.t ?_ | refine Br.f ?_ | refine ⟨rfl, ?_⟩)
    conv => whnf
    refine fin (target := []) rfl (Nat.zero_le _) (by simp) rfl rfl
  repeat ((conv => whnf); first | refine Br.t ?_ | refine Br.f ?_ | refine ⟨rfl, ?_⟩)
  conv => whnf
  refine Br.mk (fun z2 => ?_) (fun z2 => ?_)
  · repeat ((conv => whnf); first | refine Br.t ?_ | refine Br.f ?_ | refine ⟨rfl, ?_⟩)
    conv => whnf
    refine CallW.mono (semawake.pure _ rfl rfl) ?_
    rintro r st' ⟨rfl, rfl⟩
    repeat ((conv => whnf); first | refine Br.t ?_ | refine Br.f ?_ | refine ⟨rfl, ?_⟩)
    conv => whnf
    refine fin (target := []) rfl (Nat.zero_le _) (by simp) rfl rfl
  have hll : l.length ≤ 300 := by simp at z2; omega
  repeat ((conv => whnf); first | refine Br.t ?_ | refine Br.f ?_ | refine ⟨rfl, ?_⟩)
  conv => whnf
  refine CallW.mono ((start_ok p hp0).pure _ rfl rfl) ?_
  rintro r st' ⟨rfl, rfl⟩
  repeat ((conv => whnf); first | refine Br.t ?_ | refine Br.f ?_ | refine ⟨rfl, ?_⟩)
  conv => whnf
  refine Br.mk (fun z3 => ?_) (fun z3 => ?_)
  · have h0 : ¬ (chk p).2.2 = 0 := by simpa using z3
    have es : startC p = cfgZ := by unfold startC; rw [if_neg h0]
    rw [es]
    repeat ((conv => whnf); first | refine Br.t ?_ | refine Br.f ?_ | refine ⟨rfl, ?_⟩)
    conv => whnf
    refine fin (target := []) rfl (Nat.zero_le _) (by simp) rfl rfl
  · have h0 : (chk p).2.2 = 0 := by simpa using z3
    have hp := chk_zero h0
    have es : startC p = cfg0 := by unfold startC; rw [if_pos h0]
    rw [es, h0]
    repeat ((conv => whnf); first | refine Br.t ?_ | refine Br.f ?_ | refine ⟨rfl, ?_⟩)
    conv => whnf
    refine loop_ok (α := Nat) (fun i => ⟨soS l i [], [pgB p, cfgB (runC p cfg0 (l.take i))]⟩)
      (fun i => i ≤ l.length) (fun i => l.length - i) 0 (Nat.zero_le _) (Le.slots (by simp [leS, mkS, soS])) (fun i hi => wpx_ok (own := own0) _ _ _ ?_)
    have hc : OkC p (runC p cfg0 (l.take i)) := runC_ok hp _ (cfg0_ok hp)
    obtain ⟨c, hcc⟩ : ∃ c, c = runC p cfg0 (l.take i) := ⟨_, rfl⟩
    rw [← hcc] at hc ⊢
    repeat ((conv => whnf); first | refine Br.t ?_ | refine Br.f ?_ | refine ⟨rfl, ?_⟩)
    conv => whnf
    refine Br.mk (fun g => ?_) (fun g => ?_)
    · have g : i < l.length := by simpa using g
      obtain ⟨x, hx⟩ : ∃ x, l[i]? = some x := ⟨_, List.getElem?_eq_getElem g⟩
      have ex : (l.map encP).getD (i : Int).toNat [] = encP x := by rw [Int.toNat_natCast]; simp [List.getD_eq_getElem?_getD, hx]
      have cpl := plain_ok p hp c hc
      have ce := enabled_ok p hp c hc x.1
      have hno := step_no (p := p) (c := c) x.1 x.2
      have cs := semstep p hp c hc x.1 x.2
      have cr := rsame_refl p hp c hc
      have W1 := own_t p hp c hc l hll i g x ex
      have hd := stepC_ok hp hc x.1 x.2
      have hrun := run_snoc p cfg0 l i x hx
      rw [← hcc] at hrun
      obtain ⟨d, hdd⟩ : ∃ d, d = stepC p c x.1 x.2 := ⟨_, rfl⟩
      obtain ⟨q, hq⟩ : ∃ q, q = enab p c x.1 := ⟨_, rfl⟩
      rw [← hdd] at cs hrun W1 hd hno
      rw [← hq] at ce hno
      have cpd := plain_ok p hp d hd
      repeat ((conv => whnf); first | refine Br.t ?_ | refine Br.f ?_ | refine ⟨rfl, ?_⟩)
      conv => whnf
      refine CallW.mono (cpl.pure _ rfl rfl) ?_
      rintro r st' ⟨rfl, rfl⟩
      repeat ((conv => whnf); first | refine Br.t ?_ | refine Br.f ?_ | refine ⟨rfl, ?_⟩)
      conv => whnf
      refine draw_ok (own := own0) [] [] [(.i (.bool q), [pgB p, cfgB c, rcB c])] rfl (by kernel_rfl) (Nat.zero_le _) ?_
      repeat ((conv => whnf); first | refine Br.t ?_ | refine Br.f ?_ | refine ⟨rfl, ?_⟩)
      conv => whnf
      rw [ex]
      refine ⟨⟨by omega, by simp; omega, rfl⟩, ?_⟩
      repeat ((conv => whnf); first | refine Br.t ?_ | refine Br.f ?_ | refine ⟨rfl, ?_⟩)
      conv => whnf
      refine ⟨ce.pure _ rfl rfl, ?_⟩
      repeat ((conv => whnf); first | refine Br.t ?_ | refine Br.f ?_ | refine ⟨rfl, ?_⟩)
      conv => whnf
      refine ⟨by repeat ((conv => whnf); first | exact trivial | refine ⟨rfl, ?_⟩), trivial, ?_⟩
      conv => whnf
      repeat ((conv => whnf); first | refine Br.t ?_ | refine Br.f ?_ | refine ⟨rfl, ?_⟩)
      conv => whnf
      refine draw_okG (own := own0) [7, 8] [(6, 8)] [(0, 8), (1, 8), (2, 8), (3, 8), (4, 8), (5, 8)] [(cfgV d, [pgB p, cfgB c, rcB c])] rfl (by kernel_rfl) (by kernel_rfl) (Nat.zero_le _) ?_
      repeat ((conv => whnf); first | refine Br.t ?_ | refine Br.f ?_ | refine ⟨rfl, ?_⟩)
      conv => whnf
      rw [ex]
      refine ⟨⟨by omega, by simp; omega, rfl⟩, ?_⟩
      repeat ((conv => whnf); first | refine Br.t ?_ | refine Br.f ?_ | refine ⟨rfl, ?_⟩)
      conv => whnf
      refine ⟨cs.pure _ rfl rfl, ?_⟩
      repeat ((conv => whnf); first | refine Br.t ?_ | refine Br.f ?_ | refine ⟨rfl, ?_⟩)
      conv => whnf
      refine ⟨by repeat ((conv => whnf); first | exact trivial | refine ⟨rfl, ?_⟩), ?_, by repeat ((conv => whnf); first | exact trivial | refine ⟨⟨_, rfl⟩, ?_⟩), ?_⟩
      · conv => whnf
        refine ⟨?_, trivial⟩
        conv => whnf
        exact cs.pure _ rfl rfl
      conv => whnf
      repeat ((conv => whnf); first | refine Br.t ?_ | refine Br.f ?_ | refine ⟨rfl, ?_⟩)
      conv => whnf
      refine draw_ok (own := own0) [] [] [(rcV c, [pgB p, cfgB c, rcB c, cfgB d]), (.i (.bool true), [pgB p, cfgB c, rcB c, cfgB d])] rfl (by kernel_rfl) (Nat.zero_le _) ?_
      repeat ((conv => whnf); first | refine Br.t ?_ | refine Br.f ?_ | refine ⟨rfl, ?_⟩)
      conv => whnf
      refine ⟨cpl.pure _ rfl rfl, ?_⟩
      repeat ((conv => whnf); first | refine Br.t ?_ | refine Br.f ?_ | refine ⟨rfl, ?_⟩)
      conv => whnf
      refine ⟨cr.pure _ rfl rfl, ?_⟩
      repeat ((conv => whnf); first | refine Br.t ?_ | refine Br.f ?_ | refine ⟨rfl, ?_⟩)
      conv => whnf
      refine ⟨by repeat ((conv => whnf); first | exact trivial | refine ⟨rfl, ?_⟩), trivial, ?_⟩
      conv => whnf
      cases q with
      | true =>
        repeat ((conv => whnf); first | refine Br.t ?_ | refine Br.f ?_ | refine ⟨rfl, ?_⟩)
        conv => whnf
        refine CallW.mono (cpd.pure _ rfl rfl) ?_
        rintro r st' ⟨rfl, rfl⟩
        repeat ((conv => whnf); first | refine Br.t ?_ | refine Br.f ?_ | refine ⟨rfl, ?_⟩)
        conv => whnf
        refine W.le (s' := ⟨soS l i (soX 0), soB p c d⟩) (Le.slots (by simp [leS, mkS, soS, soX])) (W.mono W1 ?_)
        rintro e s' ⟨rfl, rfl⟩
        repeat ((conv => whnf); first | refine Br.t ?_ | refine Br.f ?_ | refine ⟨rfl, ?_⟩)
        conv => whnf
        refine ⟨i + 1, by omega, by omega, ?_⟩
        rw [hrun]
        refine Le.back (fun _ => 0) (by intro id hid; rfl) (by simp) rfl (B2_cl p d _) ?_ rfl
        simp [leS, mkS, soS, V.up]
        exact i64_id (by omega) (by omega)
      | false =>
        have hdc := hno rfl
        have c2 : CallW Try.prog G0 45 [cfgV c, cfgV d] [] (fun r st' => r = .i (.bool true) ∧ st' = []) := by rw [hdc]; exact same_refl p hp c hc
        repeat ((conv => whnf); first | refine Br.t ?_ | refine Br.f ?_ | refine ⟨rfl, ?_⟩)
        conv => whnf
        refine CallW.mono (c2.pure _ rfl rfl) ?_
        rintro r st' ⟨rfl, rfl⟩
        repeat ((conv => whnf); first | refine Br.t ?_ | refine Br.f ?_ | refine ⟨rfl, ?_⟩)
        conv => whnf
        refine CallW.mono (cpd.pure _ rfl rfl) ?_
        rintro r st' ⟨rfl, rfl⟩
        repeat ((conv => whnf); first | refine Br.t ?_ | refine Br.f ?_ | refine ⟨rfl, ?_⟩)
        conv => whnf
        refine W.le (s' := ⟨soS l i (soX 0), soB p c d⟩) (Le.slots (by simp [leS, mkS, soS, soX])) (W.mono W1 ?_)
        rintro e s' ⟨rfl, rfl⟩
        repeat ((conv => whnf); first | refine Br.t ?_ | refine Br.f ?_ | refine ⟨rfl, ?_⟩)
        conv => whnf
        refine ⟨i + 1, by omega, by omega, ?_⟩
        rw [hrun]
        refine Le.back (fun _ => 0) (by intro id hid; rfl) (by simp) rfl (B2_cl p d _) ?_ rfl
        simp [leS, mkS, soS, V.up]
        exact i64_id (by omega) (by omega)
    · repeat ((conv => whnf); first | refine Br.t ?_ | refine Br.f ?_ | refine ⟨rfl, ?_⟩)
      conv => whnf
      refine fin (target := []) rfl (Nat.zero_le _) (by simp) rfl rfl
end Go.Proofs.Ytiikndppckjmhaa.Am
