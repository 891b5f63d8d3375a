/- Contracts: Sem's example; no two threads have one lock, and so on. -/
import Derived.Test.YtiikndppckjmhaaSmG
namespace Go.Proofs.Ytiikndppckjmhaa.Am
set_option autoImplicit false
set_option linter.unusedVariables false
set_option linter.unusedSimpArgs false
set_option maxRecDepth 10000
set_option pp.maxSteps 3000
set_option pp.proofs false
def pAw : Pg := ⟨0, 1, 0, [[(3, 0, 0, 0)]]⟩
theorem chk_pAw : chk pAw = (0, 0, 0) := by decide
theorem pAw_ok : PgOk pAw := chk_zero (by rw [chk_pAw])
theorem okPg_of' {p : Pg} (h : PgOk p) : okPg p := ⟨by have := h.n; omega, fun f hf => by have := (h.f f hf).2.1; omega⟩
def cAw : Cfg := ⟨[⟨[(0, 0)], [0, 0, 0, 0, 0, 0, 0, 0]⟩], [1, 0, 0, 0, 0, 0, 0, 0, 0, 0, 0, 0, 0, 0, 0, 0]⟩
theorem step_pAw : stepC pAw cfg0 0 false = cAw := by rfl
theorem enab_pAw : enab pAw cfg0 0 = true := by rfl
theorem enab_pAw2 : enab pAw cAw 0 = false := by rfl
theorem cAw_ok : OkC pAw cAw := by rw [← step_pAw]; exact stepC_ok pAw_ok (cfg0_ok pAw_ok) 0 false
set_option maxHeartbeats 2000000 in
theorem semawake : CallW Try.prog G0 25 [] [] (fun r st' => r = .i (.bool true) ∧ st' = []) := by
  refine call_of_bodyF 0 (Nat.le_refl _) Try.func25 rfl (fun a w => Try.call25 a w) (wpx_ok (own := own0) _ _ _ ?_)
  have c1 := start_ok pAw (okPg_of' pAw_ok)
  rw [startC, chk_pAw, if_pos rfl] at c1
  have c2 := semstep pAw pAw_ok cfg0 (cfg0_ok pAw_ok) 0 false
  rw [step_pAw] at c2
  have c3 := enabled_ok pAw pAw_ok cfg0 (cfg0_ok pAw_ok) 0
  rw [enab_pAw] at c3
  have c4 := enabled_ok pAw pAw_ok cAw cAw_ok 0
  rw [enab_pAw2] at c4
  repeat ((conv => whnf); first | refine Br.t ?_ | refine Br.f ?_ | refine ⟨rfl, ?_⟩)
  conv => whnf
  refine CallW.mono (c1.pure _ rfl rfl) ?_
  rintro r st' ⟨rfl, rfl⟩
  repeat ((conv => whnf); first | refine Br.t ?_ | refine Br.f ?_ | refine ⟨rfl, ?_⟩)
  conv => whnf
  refine CallW.mono (c2.pure _ rfl rfl) ?_
  rintro r st' ⟨rfl, rfl⟩
  repeat ((conv => whnf); first | refine Br.t ?_ | refine Br.f ?_ | refine ⟨rfl, ?_⟩)
  conv => whnf
  refine CallW.mono (c3.pure _ rfl rfl) ?_
  rintro r st' ⟨rfl, rfl⟩
  repeat ((conv => whnf); first | refine Br.t ?_ | refine Br.f ?_ | refine ⟨rfl, ?_⟩)
  conv => whnf
  refine CallW.mono (c4.pure _ rfl rfl) ?_
  rintro r st' ⟨rfl, rfl⟩
  repeat ((conv => whnf); first | refine Br.t ?_ | refine Br.f ?_ | refine ⟨rfl, ?_⟩)
  conv => whnf
  refine ⟨by decide, ?_⟩
  repeat ((conv => whnf); first | refine Br.t ?_ | refine Br.f ?_ | refine ⟨rfl, ?_⟩)
  conv => whnf
  refine ⟨by decide, ?_⟩
  repeat ((conv => whnf); first | refine Br.t ?_ | refine Br.f ?_ | refine ⟨rfl, ?_⟩)
  conv => whnf
  refine fin (target := []) rfl (Nat.zero_le _) (by simp) rfl rfl
/-- configs behind picks -/
def runC (p : Pg) (c : Cfg) (l : List (Int × Bool)) : Cfg := l.foldl (fun c x => stepC p c x.1 x.2) c
theorem runC_ok {p : Pg} (hp : PgOk p) : ∀ (l : List (Int × Bool)) {c : Cfg}, OkC p c → OkC p (runC p c l)
  | [], _, h => h
  | x :: l, _, h => runC_ok hp l (stepC_ok hp h x.1 x.2)
def encP (x : Int × Bool) : List I := [.int .i64 x.1, .bool x.2]
theorem run_snoc (p : Pg) (c : Cfg) (l : List (Int × Bool)) (i : Nat) (x : Int × Bool) (h : l[i]? = some x) : runC p c (l.take (i + 1)) = stepC p (runC p c (l.take i)) x.1 x.2 := by
  have hl := lt_some h
  have e : l.take (i + 1) = l.take i ++ [x] := by
    rw [List.take_succ_eq_append_getElem hl]
    congr 2
    exact Option.some.inj ((List.getElem?_eq_getElem hl).symm.trans h)
  rw [e, runC, List.foldl_append]
  rfl
/-- the locks of threads below a number -/
def allM (c : Cfg) : Nat → Nat
  | 0 => 0
  | t + 1 => allM c t ||| held c (t : Int)
theorem held_lt (c : Cfg) (t : Int) : held c t < 4294967296 := heldM_lt c t 16 (by decide)
theorem held_bit (c : Cfg) (t : Int) (i : Nat) : (held c t).testBit i = decide (i < 16 ∧ 0 ≤ t ∧ (c.own.getD i 0 : Int) = t + 1) := heldM_bit c t i 16
theorem allM_lt (c : Cfg) : ∀ t, allM c t < 4294967296
  | 0 => by simp [allM]
  | t + 1 => Nat.or_lt_two_pow (n := 32) (allM_lt c t) (held_lt c t)
theorem allM_bit (c : Cfg) (i : Nat) : ∀ t, (allM c t).testBit i = true → ∃ u : Nat, u < t ∧ (c.own.getD i 0 : Int) = u + 1
  | 0, h => by simp [allM] at h
  | t + 1, h => by
    rw [allM, Nat.testBit_or, Bool.or_eq_true] at h
    rcases h with h | h
    · obtain ⟨u, h1, h2⟩ := allM_bit c i t h; exact ⟨u, by omega, h2⟩
    · rw [held_bit] at h
      simp only [decide_eq_true_eq] at h
      exact ⟨t, by omega, h.2.2⟩
theorem all_apart (c : Cfg) (t : Nat) : allM c t &&& held c (t : Int) = 0 := by
  apply Nat.eq_of_testBit_eq
  intro i
  rw [Nat.testBit_and, Nat.zero_testBit]
  cases h1 : (allM c t).testBit i with
  | false => rfl
  | true =>
    obtain ⟨u, hu, e⟩ := allM_bit c i t h1
    rw [held_bit]
    simp only [Bool.true_and, decide_eq_false_iff_not]
    rintro ⟨_, _, e2⟩
    omega
theorem live_th {c : Cfg} {t : Nat} : lives c (t : Int) = true ↔ ∃ th, c.ths[t]? = some th ∧ 0 < th.stk.length := by
  unfold lives
  rw [thAt_nat]
  cases c.ths[t]? with
  | none => simp
  | some th => simp
theorem doC_ths {c : Cfg} {t u : Nat} {th : Th} {y : Nd} {way : Bool} (hu : u < c.ths.length) (hne : u ≠ t) : (doC c t th y way).ths[u]? = c.ths[u]? := by
  have h : ∀ x, (c.ths.set t x)[u]? = c.ths[u]? := fun x => List.getElem?_set_ne (fun e => hne e.symm)
  unfold doC setTh
  simp only
  (repeat' split) <;> (try exact h _)
  all_goals
    show (c.ths.set t _ ++ [_])[u]? = _
    rw [List.getElem?_append_left (by simpa using hu)]
    exact h _
theorem doC_len (c : Cfg) (t : Nat) (th : Th) (y : Nd) (way : Bool) : (doC c t th y way).ths.length = if y.1 = 5 then c.ths.length + 1 else c.ths.length := by
  unfold doC setTh
  simp only
  (repeat' split) <;> simp_all
theorem step_len {p : Pg} {c : Cfg} (who : Int) (way : Bool) : c.ths.length ≤ (stepC p c who way).ths.length := by
  unfold stepC
  split
  · split
    · rw [doC_len]; split <;> omega
    · exact Nat.le_refl _
  · exact Nat.le_refl _
/-- who ended stays so -/
theorem step_dead {p : Pg} {c : Cfg} (who : Int) (way : Bool) {t : Nat} (ht : t < c.ths.length) (hd : lives c (t : Int) = false) : lives (stepC p c who way) (t : Int) = false := by
  unfold stepC
  split
  · rename_i he
    cases hth : thAt c who with
    | none => exact hd
    | some th =>
      simp only
      have hlive : lives c who = true := by
        unfold enab at he
        simp only [Bool.and_eq_true] at he
        exact he.1
      have hw : 0 ≤ who := by
        refine Classical.byContradiction fun h => ?_
        rw [lives_none (by omega)] at hlive; cases hlive
      have hne : t ≠ who.toNat := fun e => by
        rw [e, show ((who.toNat : Nat) : Int) = who by omega, hlive] at hd
        cases hd
      unfold lives at hd ⊢
      rw [thAt_nat] at hd ⊢
      rw [doC_ths ht hne]
      exact hd
  · exact hd
def okL (l : List (Int × Bool)) : Prop := l.length ≤ 9223372036854775807
def hdS (l : List (Int × Bool)) (i : Nat) (x : List (Nat × V)) : List V := mkS 109 ([(1, .i (.sl (l.map encP))), (2, .ptr 0 0 0 0), (5, .ptr 1 0 0 0), (6, .i (.int .i64 0)), (7, .i (.int .i64 i))] ++ x)
theorem B3_cl (p : Pg) (c d : Cfg) (m : Nat) : ∀ o ∈ [pgB p, cfgB c, cfgB d], o.cl m := by
  intro o ho
  simp only [List.mem_cons, List.not_mem_nil, or_false] at ho
  rcases ho with rfl | rfl | rfl
  · exact pgB_cl p m
  · exact cfgB_cl c m
  · exact cfgB_cl d m
theorem B2_cl (p : Pg) (c : Cfg) (m : Nat) : ∀ o ∈ [pgB p, cfgB c], o.cl m := by
  intro o ho
  simp only [List.mem_cons, List.not_mem_nil, or_false] at ho
  rcases ho with rfl | rfl
  · exact pgB_cl p m
  · exact cfgB_cl c m
set_option maxHeartbeats 2000000 in
/-- the threads' turn -/
theorem holds_t (p : Pg) (hp : PgOk p) (c d : Cfg) (hc : OkC p c) (hd : OkC p d) (hdead : ∀ t : Nat, t < c.ths.length → lives c (t : Int) = false → lives d (t : Int) = false) (l : List (Int × Bool)) (i : Nat) :
    W Try.prog G0 0 (.loop (lp Try.f4 1)) (fun e s' => e = .exit 2 ∧ s' = ⟨hdS l i [(8, .ptr 2 0 0 0)], [pgB p, cfgB c, cfgB d]⟩)
      ⟨hdS l i [(8, .ptr 2 0 0 0), (9, .i (.int .u32 0)), (10, .i (.int .i64 0))], [pgB p, cfgB c, cfgB d]⟩ := by
  have hdn := hd.n.2
  have hcn := hc.n.2
  refine W.weak (loop_ok (α := Nat) (fun t => ⟨hdS l i [(8, .ptr 2 0 0 0), (9, .i (.int .u32 (allM d t : Nat))), (10, .i (.int .i64 t))], [pgB p, cfgB c, cfgB d]⟩)
    (fun t => t ≤ d.ths.length) (fun t => d.ths.length - t) 0 (Nat.zero_le _) (Le.refl _ _) (fun t ht => wpx_ok (own := own0) _ _ _ ?_))
  repeat ((conv => whnf); first | refine Br.t ?_ | refine Br.f ?_ | refine ⟨rfl, ?_⟩)
  conv => whnf
  refine Br.mk (fun g => ?_) (fun g => ?_)
  · have g : t < d.ths.length := by simpa using g
    obtain ⟨th, hth⟩ : ∃ th, d.ths[t]? = some th := ⟨_, List.getElem?_eq_getElem g⟩
    have okt := hd.th th (List.mem_of_getElem? hth)
    have hh := okt.h
    repeat ((conv => whnf); first | refine Br.t ?_ | refine Br.f ?_ | refine ⟨rfl, ?_⟩)
    conv => whnf
    refine CallW.mono ((held_ok d (t : Int) (by omega)).pure _ rfl rfl) ?_
    rintro r st' ⟨rfl, rfl⟩
    have ea := and32' (allM_lt d t) (held_lt d (t : Int))
    rw [all_apart] at ea
    repeat ((conv => whnf); first | refine Br.t ?_ | refine Br.f ?_ | refine ⟨rfl, ?_⟩)
    conv => whnf
    refine draw_ok (own := own0) [] [] [] rfl (by kernel_rfl) (Nat.zero_le _) ?_
    repeat ((conv => whnf); first | refine Br.t ?_ | refine Br.f ?_ | refine ⟨rfl, ?_⟩)
    conv => whnf
    rw [ea]
    repeat ((conv => whnf); first | refine Br.t ?_ | refine Br.f ?_ | refine ⟨rfl, ?_⟩)
    conv => whnf
    rw [encTh_get hth]
    refine ⟨⟨by omega, by simp; omega, rfl⟩, ?_⟩
    repeat ((conv => whnf); first | refine Br.t ?_ | refine Br.f ?_ | refine ⟨rfl, ?_⟩)
    conv => whnf
    refine ⟨by repeat ((conv => whnf); first | exact trivial | refine ⟨rfl, ?_⟩), trivial, ?_⟩
    conv => whnf
    refine Br.mk (fun h => by simp at h; omega) (fun _ => ?_)
    repeat ((conv => whnf); first | refine Br.t ?_ | refine Br.f ?_ | refine ⟨rfl, ?_⟩)
    conv => whnf
    refine Br.mk (fun h1 => ?_) (fun h1 => ?_)
    · have h1 : t < c.ths.length := by simpa using h1
      repeat ((conv => whnf); first | refine Br.t ?_ | refine Br.f ?_ | refine ⟨rfl, ?_⟩)
      conv => whnf
      refine CallW.mono ((lives_ok c (by omega) (t : Int)).pure _ rfl rfl) ?_
      rintro r st' ⟨rfl, rfl⟩
      obtain ⟨q, hq⟩ : ∃ q, q = lives c (t : Int) := ⟨_, rfl⟩
      rw [← hq]
      cases q with
      | true =>
        repeat ((conv => whnf); first | refine Br.t ?_ | refine Br.f ?_ | refine ⟨rfl, ?_⟩)
        conv => whnf
        refine ⟨t + 1, by omega, by omega, Le.slots ?_⟩
        have e3 := or32' (allM_lt d t) (held_lt d (t : Int))
        rw [show allM d (t + 1) = allM d t ||| held d (t : Int) from rfl, ← e3]
        simp [leS, mkS, hdS]
        exact i64_id (by omega) (by omega)
      | false =>
        repeat ((conv => whnf); first | refine Br.t ?_ | refine Br.f ?_ | refine ⟨rfl, ?_⟩)
        conv => whnf
        refine CallW.mono ((lives_ok d (by omega) (t : Int)).pure _ rfl rfl) ?_
        rintro r st' ⟨rfl, rfl⟩
        rw [hdead t h1 hq.symm]
        repeat ((conv => whnf); first | refine Br.t ?_ | refine Br.f ?_ | refine ⟨rfl, ?_⟩)
        conv => whnf
        refine ⟨t + 1, by omega, by omega, Le.slots ?_⟩
        have e3 := or32' (allM_lt d t) (held_lt d (t : Int))
        rw [show allM d (t + 1) = allM d t ||| held d (t : Int) from rfl, ← e3]
        simp [leS, mkS, hdS]
        exact i64_id (by omega) (by omega)
    · have h1 : ¬ t < c.ths.length := by simpa using h1
      repeat ((conv => whnf); first | refine Br.t ?_ | refine Br.f ?_ | refine ⟨rfl, ?_⟩)
      conv => whnf
      refine ⟨t + 1, by omega, by omega, Le.slots ?_⟩
      have e3 := or32' (allM_lt d t) (held_lt d (t : Int))
      rw [show allM d (t + 1) = allM d t ||| held d (t : Int) from rfl, ← e3]
      simp [leS, mkS, hdS]
      exact i64_id (by omega) (by omega)
  · have g : t = d.ths.length := by simp at g; omega
    subst g
    repeat ((conv => whnf); first | refine Br.t ?_ | refine Br.f ?_ | refine ⟨rfl, ?_⟩)
    conv => whnf
    exact ⟨_, Le.slots (by simp [leS, mkS, hdS]), rfl, rfl⟩
theorem step_dead' {p : Pg} {c : Cfg} (who : Int) (way : Bool) (t : Nat) (ht : t < c.ths.length) (hd : lives c (t : Int) = false) : lives (stepC p c who way) (t : Int) = false := step_dead who way ht hd
set_option maxHeartbeats 4000000 in
theorem semholds (p : Pg) (hp0 : okPg p) (l : List (Int × Bool)) (hl : okL l) : CallW Try.prog G0 4 [pgV p, .i (.sl (l.map encP))] [] (fun r st' => r = .i (.bool true) ∧ st' = []) := by
  refine call_of_bodyF 0 (Nat.le_refl _) Try.func4 rfl (fun a w => Try.call4 a w) (wpx_ok (own := own0) _ _ _ ?_)
  unfold okL at hl
  repeat ((conv => whnf); first | refine Br.t ?_ | refine Br.f ?_ | refine ⟨rfl, ?_⟩)
  conv => whnf
  refine CallW.mono (semawake.pure _ rfl rfl) ?_
  rintro r st' ⟨rfl, rfl⟩
  repeat ((conv => whnf); first | refine Br.t ?_ | refine Br.f ?_ | refine ⟨rfl, ?_⟩)
  conv => whnf
  refine CallW.mono ((small16 p hp0).pure _ rfl rfl) ?_
  rintro r st' ⟨rfl, rfl⟩
  repeat ((conv => whnf); first | refine Br.t ?_ | refine Br.f ?_ | refine ⟨rfl, ?_⟩)
  conv => whnf
  refine Br.mk (fun z => ?_) (fun z => ?_)
  · repeat ((conv => whnf); first | refine Br.t ?_ | refine Br.f ?_ | refine ⟨rfl, ?_⟩)
    conv => whnf
    refine CallW.mono (semawake.pure _ rfl rfl) ?_
    rintro r st' ⟨rfl, rfl⟩
    repeat ((conv => whnf); first | refine Br.t ?_ | refine Br.f ?_ | refine ⟨rfl, ?_⟩)
    conv => whnf
    refine fin (target := []) rfl (Nat.zero_le _) (by simp) rfl rfl
  repeat ((conv => whnf); first | refine Br.t ?_ | refine Br.f ?_ | refine ⟨rfl, ?_⟩)
  conv => whnf
  refine Br.mk (fun z2 => ?_) (fun z2 => ?_)
  · repeat ((conv => whnf); first | refine Br.t ?_ | refine Br.f ?_ | refine ⟨rfl, ?_⟩)
    conv => whnf
    refine CallW.mono (semawake.pure _ rfl rfl) ?_
    rintro r st' ⟨rfl, rfl⟩
    repeat ((conv => whnf); first | refine Br.t ?_ | refine Br.f ?_ | refine ⟨rfl, ?_⟩)
    conv => whnf
    refine fin (target := []) rfl (Nat.zero_le _) (by simp) rfl rfl
  have hll : l.length ≤ 300 := by simp at z2; omega
  repeat ((conv => whnf); first | refine Br.t ?_ | refine Br.f ?_ | refine ⟨rfl, ?_⟩)
  conv => whnf
  refine CallW.mono ((start_ok p hp0).pure _ rfl rfl) ?_
  rintro r st' ⟨rfl, rfl⟩
  repeat ((conv => whnf); first | refine Br.t ?_ | refine Br.f ?_ | refine ⟨rfl, ?_⟩)
  conv => whnf
  refine Br.mk (fun z3 => ?_) (fun z3 => ?_)
  · have h0 : ¬ (chk p).2.2 = 0 := by simpa using z3
    have es : startC p = cfgZ := by unfold startC; rw [if_neg h0]
    rw [es]
    repeat ((conv => whnf); first | refine Br.t ?_ | refine Br.f ?_ | refine ⟨rfl, ?_⟩)
    conv => whnf
    refine fin (target := []) rfl (Nat.zero_le _) (by simp) rfl rfl
  · have h0 : (chk p).2.2 = 0 := by simpa using z3
    have hp := chk_zero h0
    have es : startC p = cfg0 := by unfold startC; rw [if_pos h0]
    rw [es, h0]
    repeat ((conv => whnf); first | refine Br.t ?_ | refine Br.f ?_ | refine ⟨rfl, ?_⟩)
    conv => whnf
    refine loop_ok (α := Nat) (fun i => ⟨hdS l i [], [pgB p, cfgB (runC p cfg0 (l.take i))]⟩)
      (fun i => i ≤ l.length) (fun i => l.length - i) 0 (Nat.zero_le _) (Le.slots (by simp [leS, mkS, hdS])) (fun i hi => wpx_ok (own := own0) _ _ _ ?_)
    have hc : OkC p (runC p cfg0 (l.take i)) := runC_ok hp _ (cfg0_ok hp)
    obtain ⟨c, hcc⟩ : ∃ c, c = runC p cfg0 (l.take i) := ⟨_, rfl⟩
    rw [← hcc] at hc ⊢
    repeat ((conv => whnf); first | refine Br.t ?_ | refine Br.f ?_ | refine ⟨rfl, ?_⟩)
    conv => whnf
    refine Br.mk (fun g => ?_) (fun g => ?_)
    · have g : i < l.length := by simpa using g
      obtain ⟨x, hx⟩ : ∃ x, l[i]? = some x := ⟨_, List.getElem?_eq_getElem g⟩
      have ex : (l.map encP).getD (i : Int).toNat [] = encP x := by rw [Int.toNat_natCast]; simp [List.getD_eq_getElem?_getD, hx]
      obtain ⟨d, hdd⟩ : ∃ d, d = stepC p c x.1 x.2 := ⟨_, rfl⟩
      have hd : OkC p d := by rw [hdd]; exact stepC_ok hp hc _ _
      have cs := semstep p hp c hc x.1 x.2
      rw [← hdd] at cs
      repeat ((conv => whnf); first | refine Br.t ?_ | refine Br.f ?_ | refine ⟨rfl, ?_⟩)
      conv => whnf
      refine draw_okG (own := own0) [7, 8] [(6, 8)] [(0, 8), (1, 8), (2, 8), (3, 8), (4, 8), (5, 8)] [(cfgV d, [pgB p, cfgB c])] rfl (by kernel_rfl) (by kernel_rfl) (Nat.zero_le _) ?_
      repeat ((conv => whnf); first | refine Br.t ?_ | refine Br.f ?_ | refine ⟨rfl, ?_⟩)
      conv => whnf
      rw [ex]
      refine ⟨⟨by omega, by simp; omega, rfl⟩, ?_⟩
      repeat ((conv => whnf); first | refine Br.t ?_ | refine Br.f ?_ | refine ⟨rfl, ?_⟩)
      conv => whnf
      refine ⟨cs.pure _ rfl rfl, ?_⟩
      repeat ((conv => whnf); first | refine Br.t ?_ | refine Br.f ?_ | refine ⟨rfl, ?_⟩)
      conv => whnf
      refine ⟨by repeat ((conv => whnf); first | exact trivial | refine ⟨rfl, ?_⟩), ?_, by repeat ((conv => whnf); first | exact trivial | refine ⟨⟨_, rfl⟩, ?_⟩), ?_⟩
      · conv => whnf
        refine ⟨?_, trivial⟩
        conv => whnf
        exact cs.pure _ rfl rfl
      conv => whnf
      repeat ((conv => whnf); first | refine Br.t ?_ | refine Br.f ?_ | refine ⟨rfl, ?_⟩)
      conv => whnf
      refine W.le (s' := ⟨hdS l i [(8, .ptr 2 0 0 0), (9, .i (.int .u32 0)), (10, .i (.int .i64 0))], [pgB p, cfgB c, cfgB d]⟩) (Le.slots (by simp [leS, mkS, hdS])) (W.mono (holds_t p hp c d hc hd (fun t ht h => by rw [hdd]; exact step_dead' x.1 x.2 t ht h) l i) ?_)
      rintro e s' ⟨rfl, rfl⟩
      repeat ((conv => whnf); first | refine Br.t ?_ | refine Br.f ?_ | refine ⟨rfl, ?_⟩)
      conv => whnf
      have hlen : c.ths.length ≤ d.ths.length := by rw [hdd]; exact step_len _ _
      refine Br.mk (fun h => by simp at h; omega) (fun _ => ?_)
      repeat ((conv => whnf); first | refine Br.t ?_ | refine Br.f ?_ | refine ⟨rfl, ?_⟩)
      conv => whnf
      have hdn := hd.n.2
      refine Br.mk (fun h => by simp at h; omega) (fun _ => ?_)
      repeat ((conv => whnf); first | refine Br.t ?_ | refine Br.f ?_ | refine ⟨rfl, ?_⟩)
      conv => whnf
      refine ⟨i + 1, by omega, by omega, ?_⟩
      rw [run_snoc p cfg0 l i x hx, ← hcc, ← hdd]
      refine Le.back (fun _ => 0) (by intro id hid; rfl) (by simp) rfl (B2_cl p d _) ?_ rfl
      simp [leS, mkS, hdS, V.up]
      exact i64_id (by omega) (by omega)
    · have g : i = l.length := by simp at g; omega
      repeat ((conv => whnf); first | refine Br.t ?_ | refine Br.f ?_ | refine ⟨rfl, ?_⟩)
      conv => whnf
      refine fin (target := []) rfl (Nat.zero_le _) (by simp) rfl rfl
end Go.Proofs.Ytiikndppckjmhaa.Am
