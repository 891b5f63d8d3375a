/- Contract: what a thread has grows by its own Lock alone, and shrinks by its own Unlock alone. -/
import Derived.Test.YtiikndppckjmhaaSmH
namespace Go.Proofs.Ytiikndppckjmhaa.Am
set_option autoImplicit false
set_option linter.unusedVariables false
set_option linter.unusedSimpArgs false
set_option maxRecDepth 10000
set_option pp.maxSteps 3000
set_option pp.proofs false
theorem andn0 {a b : Nat} (h : ∀ i, a.testBit i = true → b.testBit i = true) : IntKind.u32.wrap ((BitVec.ofInt IntKind.u32.bits (a : Int) &&& ~~~ BitVec.ofInt IntKind.u32.bits (b : Int)).toNat : Nat) = 0 := by
  have e : (BitVec.ofInt IntKind.u32.bits (a : Int) &&& ~~~ BitVec.ofInt IntKind.u32.bits (b : Int)) = 0#(IntKind.u32.bits) := by
    rw [BitVec.ofInt_natCast, BitVec.ofInt_natCast]
    apply BitVec.eq_of_getLsbD_eq
    intro i hi
    simp only [BitVec.getLsbD_and, BitVec.getLsbD_not, BitVec.getLsbD_ofNat, BitVec.getLsbD_zero]
    cases ha : a.testBit i with
    | false => simp
    | true => simp [h i ha]
  rw [e]; rfl
/-- what a step makes of the owners -/
theorem own_step {p : Pg} {c : Cfg} (hp : PgOk p) (hc : OkC p c) (who : Int) (way : Bool) :
    (stepC p c who way).own = c.own ∨ (∃ a, a < 16 ∧ (atN p c who).1 = 3 ∧ 0 ≤ who ∧ c.own.getD a 0 = 0 ∧ (stepC p c who way).own = c.own.set a (who.toNat + 1)) ∨
      ∃ a, a < 16 ∧ (atN p c who).1 = 4 ∧ 0 ≤ who ∧ c.own.getD a 0 = who.toNat + 1 ∧ (stepC p c who way).own = c.own.set a 0 := by
  unfold stepC
  split
  · rename_i he
    have hl : lives c who = true := by
      unfold enab at he
      simp only [Bool.and_eq_true] at he
      exact he.1
    have eN : atN p c who = ndAt p c who := by unfold atN; rw [if_pos hl]
    obtain ⟨t, th, f, L, rfl, hth, hs0, hf1, hL, hy, hLm, hym, hmay⟩ := nd_in hp hc hl
    rw [eN, thAt_nat, hth]
    unfold enab at he
    rw [hl, Bool.true_and] at he
    obtain ⟨y, hyy⟩ : ∃ y, y = ndAt p c (t : Int) := ⟨_, rfl⟩
    rw [← hyy] at hmay he ⊢
    simp only [Int.toNat_natCast]
    have hlk := hp.l
    unfold doC setTh
    simp only
    split
    · exact .inl rfl
    · split
      · rename_i h3
        rw [if_pos h3] at he
        have := may_lock hp hmay (.inl h3)
        exact .inr (.inl ⟨y.2.1.toNat, by omega, h3, by omega, by simpa using he, rfl⟩)
      · split
        · rename_i h4
          have := may_lock hp hmay (.inr h4)
          by_cases ho : c.own.getD y.2.1.toNat 0 = t + 1
          · refine .inr (.inr ⟨y.2.1.toNat, by omega, h4, by omega, ho, ?_⟩)
            show (if _ then _ else _) = _
            rw [if_pos ho]
          · refine .inl ?_
            show (if _ then _ else _) = _
            rw [if_neg ho]
        · split
          · exact .inl rfl
          · split <;> exact .inl rfl
  · exact .inl rfl
theorem len_step {p : Pg} {c : Cfg} (who : Int) (way : Bool) : (stepC p c who way).ths.length = c.ths.length ∨ (lives c who = true ∧ (atN p c who).1 = 5 ∧ (stepC p c who way).ths.length = c.ths.length + 1) := by
  unfold stepC
  split
  · rename_i he
    have hl : lives c who = true := by
      unfold enab at he
      simp only [Bool.and_eq_true] at he
      exact he.1
    split
    · rw [doC_len]
      split
      · rename_i h5
        exact .inr ⟨hl, by unfold atN; rw [if_pos hl]; exact h5, rfl⟩
      · exact .inl rfl
    · exact .inl rfl
  · exact .inl rfl
theorem grows {p : Pg} {c : Cfg} (hp : PgOk p) (hc : OkC p c) (who : Int) (way : Bool) (t : Nat) (h : ¬ ((t : Int) = who ∧ (atN p c who).1 = 3)) (i : Nat) (hb : (held (stepC p c who way) (t : Int)).testBit i = true) : (held c (t : Int)).testBit i = true := by
  rw [held_bit] at hb ⊢
  simp only [decide_eq_true_eq] at hb ⊢
  obtain ⟨b1, b2, b3⟩ := hb
  refine ⟨b1, b2, ?_⟩
  have ho := hc.own
  rcases own_step hp hc who way with e | ⟨a, h1, h2, h3, h4, e⟩ | ⟨a, h1, h2, h3, h4, e⟩
  · rw [e] at b3; exact b3
  · rw [e, List.getD_eq_getElem?_getD, List.getElem?_set] at b3
    by_cases ha : a = i
    · rw [if_pos ha, if_pos (by omega)] at b3
      simp only [Option.getD_some] at b3
      exact absurd ⟨by omega, h2⟩ h
    · rw [if_neg ha, ← List.getD_eq_getElem?_getD] at b3
      exact b3
  · rw [e, List.getD_eq_getElem?_getD, List.getElem?_set] at b3
    by_cases ha : a = i
    · rw [if_pos ha, if_pos (by omega)] at b3
      simp only [Option.getD_some] at b3
      omega
    · rw [if_neg ha, ← List.getD_eq_getElem?_getD] at b3
      exact b3
theorem shrinks {p : Pg} {c : Cfg} (hp : PgOk p) (hc : OkC p c) (who : Int) (way : Bool) (t : Nat) (h : ¬ ((t : Int) = who ∧ (atN p c who).1 = 4)) (i : Nat) (hb : (held c (t : Int)).testBit i = true) : (held (stepC p c who way) (t : Int)).testBit i = true := by
  rw [held_bit] at hb ⊢
  simp only [decide_eq_true_eq] at hb ⊢
  obtain ⟨b1, b2, b3⟩ := hb
  refine ⟨b1, b2, ?_⟩
  have ho := hc.own
  rcases own_step hp hc who way with e | ⟨a, h1, h2, h3, h4, e⟩ | ⟨a, h1, h2, h3, h4, e⟩
  · rw [e]; exact b3
  · rw [e, List.getD_eq_getElem?_getD, List.getElem?_set]
    by_cases ha : a = i
    · subst ha; rw [h4] at b3; omega
    · rw [if_neg ha, ← List.getD_eq_getElem?_getD]
      exact b3
  · rw [e, List.getD_eq_getElem?_getD, List.getElem?_set]
    by_cases ha : a = i
    · subst ha; rw [h4] at b3; exact absurd ⟨by omega, h2⟩ h
    · rw [if_neg ha, ← List.getD_eq_getElem?_getD]
      exact b3

def lkS (l : List (Int × Bool)) (i : Nat) (x : List (Nat × V)) : List V := mkS 136 ([(1, .i (.sl (l.map encP))), (2, .ptr 0 0 0 0), (5, .ptr 1 0 0 0), (7, .i (.int .i64 i))] ++ x)
def lkB (p : Pg) (c : Cfg) (y : Nd) (d : Cfg) : List Ob := [pgB p, cfgB c, ndB' y, cfgB d]
theorem lkB_cl (p : Pg) (c : Cfg) (y : Nd) (d : Cfg) (m : Nat) : ∀ o ∈ lkB p c y d, o.cl m := by
  intro o ho
  simp only [lkB, List.mem_cons, List.not_mem_nil, or_false] at ho
  rcases ho with rfl | rfl | rfl | rfl
  · exact pgB_cl p m
  · exact cfgB_cl c m
  · intro cs hcs; simp only [List.mem_singleton] at hcs; subst hcs; rfl
  · exact cfgB_cl d m
set_option maxHeartbeats 2000000 in
theorem locks_t (p : Pg) (hp : PgOk p) (c : Cfg) (hc : OkC p c) (l : List (Int × Bool)) (hll : l.length ≤ 300) (i : Nat) (hi : i < l.length) (x : Int × Bool) (ex : (l.map encP).getD (i : Int).toNat [] = encP x) :
    W Try.prog G0 0 (.loop (lp Try.f5 1)) (fun e s' => e = .exit 2 ∧ s' = ⟨lkS l i [(8, .ptr 2 0 0 0), (10, .ptr 3 0 0 0)], lkB p c (atN p c x.1) (stepC p c x.1 x.2)⟩)
      ⟨lkS l i [(8, .ptr 2 0 0 0), (10, .ptr 3 0 0 0), (11, .i (.int .i64 0))], lkB p c (atN p c x.1) (stepC p c x.1 x.2)⟩ := by
  have hgr := grows hp hc x.1 x.2
  have hsh := shrinks hp hc x.1 x.2
  have hd : OkC p (stepC p c x.1 x.2) := stepC_ok hp hc _ _
  obtain ⟨d, hdd⟩ : ∃ d, d = stepC p c x.1 x.2 := ⟨_, rfl⟩
  obtain ⟨y, hy⟩ : ∃ y, y = atN p c x.1 := ⟨_, rfl⟩
  rw [← hdd, ← hy] at hgr hsh
  rw [← hdd] at hd
  rw [← hdd, ← hy]
  have hdn := hd.n.2
  have hcn := hc.n.2
  refine W.weak (loop_ok (α := Nat) (fun t => ⟨lkS l i [(8, .ptr 2 0 0 0), (10, .ptr 3 0 0 0), (11, .i (.int .i64 t))], lkB p c y d⟩)
    (fun t => t ≤ c.ths.length) (fun t => c.ths.length - t) 0 (Nat.zero_le _) (Le.refl _ _) (fun t ht => wpx_ok (own := own0) _ _ _ ?_))
  repeat ((conv => whnf); first | refine Br.t ?_ | refine Br.f ?_ | refine ⟨rfl, ?_⟩)
  conv => whnf
  refine Br.mk (fun g => ?_) (fun g => ?_)
  · have g : t < c.ths.length := by simpa using g
    have hgr := hgr t
    have hsh := hsh t
    have h1 := held_ok c (t : Int) (by omega)
    have h2 := held_ok d (t : Int) (by omega)
    obtain ⟨u, hu⟩ : ∃ u, u = held c (t : Int) := ⟨_, rfl⟩
    obtain ⟨v, hv⟩ : ∃ v, v = held d (t : Int) := ⟨_, rfl⟩
    rw [← hu] at h1 hgr hsh
    rw [← hv] at h2 hgr hsh
    repeat ((conv => whnf); first | refine Br.t ?_ | refine Br.f ?_ | refine ⟨rfl, ?_⟩)
    conv => whnf
    refine draw_ok (own := own0) [] [] [(.i (.int .u32 (u : Nat)), lkB p c y d), (.i (.int .u32 (v : Nat)), lkB p c y d)] rfl (by kernel_rfl) (Nat.zero_le _) ?_
    repeat ((conv => whnf); first | refine Br.t ?_ | refine Br.f ?_ | refine ⟨rfl, ?_⟩)
    conv => whnf
    refine ⟨h1.pure _ rfl rfl, ?_⟩
    repeat ((conv => whnf); first | refine Br.t ?_ | refine Br.f ?_ | refine ⟨rfl, ?_⟩)
    conv => whnf
    refine ⟨h2.pure _ rfl rfl, ?_⟩
    repeat ((conv => whnf); first | refine Br.t ?_ | refine Br.f ?_ | refine ⟨rfl, ?_⟩)
    conv => whnf
    refine ⟨by repeat ((conv => whnf); first | exact trivial | refine ⟨rfl, ?_⟩), trivial, ?_⟩
    conv => whnf
    by_cases k3 : (t : Int) = x.1 ∧ y.1 = 3
    · have e4 := andn0 (hsh (by omega))
      refine Br.mk (fun a => ?_) (fun a => ?_)
      · repeat ((conv => whnf); first | refine Br.t ?_ | refine Br.f ?_ | refine ⟨rfl, ?_⟩)
        conv => whnf
        rw [ex]
        refine ⟨⟨by omega, by simp; omega, rfl⟩, ?_⟩
        repeat ((conv => whnf); first | refine Br.t ?_ | refine Br.f ?_ | refine ⟨rfl, ?_⟩)
        conv => whnf
        refine Br.mk (fun h => by simp [k3.1] at h) (fun _ => ?_)
        repeat ((conv => whnf); first | refine Br.t ?_ | refine Br.f ?_ | refine ⟨rfl, ?_⟩)
        conv => whnf
        refine Br.mk (fun h => by simp [k3.2] at h) (fun _ => ?_)
        repeat ((conv => whnf); first | refine Br.t ?_ | refine Br.f ?_ | refine ⟨rfl, ?_⟩)
        conv => whnf
        rw [e4]
        repeat ((conv => whnf); first | refine Br.t ?_ | refine Br.f ?_ | refine ⟨rfl, ?_⟩)
        conv => whnf
        refine ⟨t + 1, by omega, by omega, Le.slots ?_⟩
        simp [leS, mkS, lkS]
        exact i64_id (by omega) (by omega)
      · repeat ((conv => whnf); first | refine Br.t ?_ | refine Br.f ?_ | refine ⟨rfl, ?_⟩)
        conv => whnf
        rw [e4]
        repeat ((conv => whnf); first | refine Br.t ?_ | refine Br.f ?_ | refine ⟨rfl, ?_⟩)
        conv => whnf
        refine ⟨t + 1, by omega, by omega, Le.slots ?_⟩
        simp [leS, mkS, lkS]
        exact i64_id (by omega) (by omega)
    · have e3 := andn0 (hgr k3)
      rw [e3]
      repeat ((conv => whnf); first | refine Br.t ?_ | refine Br.f ?_ | refine ⟨rfl, ?_⟩)
      conv => whnf
      by_cases k4 : (t : Int) = x.1 ∧ y.1 = 4
      · refine Br.mk (fun a => ?_) (fun a => ?_)
        · repeat ((conv => whnf); first | refine Br.t ?_ | refine Br.f ?_ | refine ⟨rfl, ?_⟩)
          conv => whnf
          rw [ex]
          refine ⟨⟨by omega, by simp; omega, rfl⟩, ?_⟩
          repeat ((conv => whnf); first | refine Br.t ?_ | refine Br.f ?_ | refine ⟨rfl, ?_⟩)
          conv => whnf
          refine Br.mk (fun h => by simp [k4.1] at h) (fun _ => ?_)
          repeat ((conv => whnf); first | refine Br.t ?_ | refine Br.f ?_ | refine ⟨rfl, ?_⟩)
          conv => whnf
          refine Br.mk (fun h => by simp [k4.2] at h) (fun _ => ?_)
          repeat ((conv => whnf); first | refine Br.t ?_ | refine Br.f ?_ | refine ⟨rfl, ?_⟩)
          conv => whnf
          refine ⟨t + 1, by omega, by omega, Le.slots ?_⟩
          simp [leS, mkS, lkS]
          exact i64_id (by omega) (by omega)
        · repeat ((conv => whnf); first | refine Br.t ?_ | refine Br.f ?_ | refine ⟨rfl, ?_⟩)
          conv => whnf
          refine ⟨t + 1, by omega, by omega, Le.slots ?_⟩
          simp [leS, mkS, lkS]
          exact i64_id (by omega) (by omega)
      · have e4 := andn0 (hsh k4)
        rw [e4]
        repeat ((conv => whnf); first | refine Br.t ?_ | refine Br.f ?_ | refine ⟨rfl, ?_⟩)
        conv => whnf
        refine ⟨t + 1, by omega, by omega, Le.slots ?_⟩
        simp [leS, mkS, lkS]
        exact i64_id (by omega) (by omega)
  · have g : t = c.ths.length := by simp at g; omega
    subst g
    repeat ((conv => whnf); first | refine Br.t ?_ | refine Br.f ?_ | refine ⟨rfl, ?_⟩)
    conv => whnf
    exact ⟨_, Le.slots (by simp [leS, mkS, lkS]), rfl, rfl⟩
set_option maxHeartbeats 4000000 in
theorem semlocks (p : Pg) (hp0 : okPg p) (l : List (Int × Bool)) (hl : okL l) : CallW Try.prog G0 5 [pgV p, .i (.sl (l.map encP))] [] (fun r st' => r = .i (.bool true) ∧ st' = []) := by
  refine call_of_bodyF 0 (Nat.le_refl _) Try.func5 rfl (fun a w => Try.call5 a w) (wpx_ok (own := own0) _ _ _ ?_)
  unfold okL at hl
  repeat ((conv => whnf); first | refine Br.t ?_ | refine Br.f ?_ | refine ⟨rfl, ?_⟩)
  conv => whnf
  refine CallW.mono (semawake.pure _ rfl rfl) ?_
  rintro r st' ⟨rfl, rfl⟩
  repeat ((conv => whnf); first | refine Br.t ?_ | refine Br.f ?_ | refine ⟨rfl, ?_⟩)
  conv => whnf
  refine CallW.mono ((small16 p hp0).pure _ rfl rfl) ?_
  rintro r st' ⟨rfl, rfl⟩
  repeat ((conv => whnf); first | refine Br.t ?_ | refine Br.f ?_ | refine ⟨rfl, ?_⟩)
  conv => whnf
  refine Br.mk (fun z => ?_) (fun z => ?_)
  · repeat ((conv => whnf); first | refine Br.t ?_ | refine Br.f ?_ | refine ⟨rfl, ?_⟩)
    conv => whnf
    refine CallW.mono (semawake.pure _ rfl rfl) ?_
    rintro r st' ⟨rfl, rfl⟩
    repeat ((conv => whnf); first | refine Br.t ?_ | refine Br.f ?_ | refine ⟨rfl, ?_⟩)
    conv => whnf
    refine fin (target := []) rfl (Nat.zero_le _) (by simp) rfl rfl
  repeat ((conv => whnf); first | refine Br.t ?_ | refine Br.f ?_ | refine ⟨rfl, ?_⟩)
  conv => whnf
  refine Br.mk (fun z2 => ?_) (fun z2 => ?_)
  · repeat ((conv => whnf); first | refine Br.t ?_ | refine Br.f ?_ | refine ⟨rfl, ?_⟩)
    conv => whnf
    refine CallW.mono (semawake.pure _ rfl rfl) ?_
    rintro r st' ⟨rfl, rfl⟩
    repeat ((conv => whnf); first | refine Br.t ?_ | refine Br.f ?_ | refine ⟨rfl, ?_⟩)
    conv => whnf
    refine fin (target := []) rfl (Nat.zero_le _) (by simp) rfl rfl
  have hll : l.length ≤ 300 := by simp at z2; omega
  repeat ((conv => whnf); first | refine Br.t ?_ | refine Br.f ?_ | refine ⟨rfl, ?_⟩)
  conv => whnf
  refine CallW.mono ((start_ok p hp0).pure _ rfl rfl) ?_
  rintro r st' ⟨rfl, rfl⟩
  repeat ((conv => whnf); first | refine Br.t ?_ | refine Br.f ?_ | refine ⟨rfl, ?_⟩)
  conv => whnf
  refine Br.mk (fun z3 => ?_) (fun z3 => ?_)
  · have h0 : ¬ (chk p).2.2 = 0 := by simpa using z3
    have es : startC p = cfgZ := by unfold startC; rw [if_neg h0]
    rw [es]
    repeat ((conv => whnf); first | refine Br.t ?_ | refine Br.f ?_ | refine ⟨rfl, ?_⟩)
    conv => whnf
    refine fin (target := []) rfl (Nat.zero_le _) (by simp) rfl rfl
  · have h0 : (chk p).2.2 = 0 := by simpa using z3
    have hp := chk_zero h0
    have es : startC p = cfg0 := by unfold startC; rw [if_pos h0]
    rw [es, h0]
    repeat ((conv => whnf); first | refine Br.t ?_ | refine Br.f ?_ | refine ⟨rfl, ?_⟩)
    conv => whnf
    refine loop_ok (α := Nat) (fun i => ⟨lkS l i [], [pgB p, cfgB (runC p cfg0 (l.take i))]⟩)
      (fun i => i ≤ l.length) (fun i => l.length - i) 0 (Nat.zero_le _) (Le.slots (by simp [leS, mkS, lkS])) (fun i hi => wpx_ok (own := own0) _ _ _ ?_)
    have hc : OkC p (runC p cfg0 (l.take i)) := runC_ok hp _ (cfg0_ok hp)
    obtain ⟨c, hcc⟩ : ∃ c, c = runC p cfg0 (l.take i) := ⟨_, rfl⟩
    rw [← hcc] at hc ⊢
    repeat ((conv => whnf); first | refine Br.t ?_ | refine Br.f ?_ | refine ⟨rfl, ?_⟩)
    conv => whnf
    refine Br.mk (fun g => ?_) (fun g => ?_)
    · have g : i < l.length := by simpa using g
      obtain ⟨x, hx⟩ : ∃ x, l[i]? = some x := ⟨_, List.getElem?_eq_getElem g⟩
      have ex : (l.map encP).getD (i : Int).toNat [] = encP x := by rw [Int.toNat_natCast]; simp [List.getD_eq_getElem?_getD, hx]
      have ca := at_ok p hp c hc x.1
      have cs := semstep p hp c hc x.1 x.2
      have W1 := locks_t p hp c hc l hll i g x ex
      have hlen := len_step (p := p) (c := c) x.1 x.2
      have hdn := (stepC_ok hp hc x.1 x.2).n.2
      have hrun := run_snoc p cfg0 l i x hx
      rw [← hcc] at hrun
      obtain ⟨d, hdd⟩ : ∃ d, d = stepC p c x.1 x.2 := ⟨_, rfl⟩
      obtain ⟨y, hy⟩ : ∃ y, y = atN p c x.1 := ⟨_, rfl⟩
      obtain ⟨q, hq⟩ : ∃ q, q = lives c x.1 := ⟨_, rfl⟩
      rw [← hy, ← hq] at ca hlen
      rw [← hdd] at cs hlen hrun hdn
      rw [← hdd, ← hy] at W1
      repeat ((conv => whnf); first | refine Br.t ?_ | refine Br.f ?_ | refine ⟨rfl, ?_⟩)
      conv => whnf
      refine draw_okG (own := own0) [11, 12] [(7, 12), (10, 14)] [(0, 12), (1, 12), (2, 12), (3, 12), (4, 12), (5, 12), (6, 12), (8, 12), (9, 12), (10, 12)] [(.tup [ndV y, .i (.bool q)], [pgB p, cfgB c])] rfl (by kernel_rfl) (by kernel_rfl) (Nat.zero_le _) ?_
      repeat ((conv => whnf); first | refine Br.t ?_ | refine Br.f ?_ | refine ⟨rfl, ?_⟩)
      conv => whnf
      rw [ex]
      refine ⟨⟨by omega, by simp; omega, rfl⟩, ?_⟩
      repeat ((conv => whnf); first | refine Br.t ?_ | refine Br.f ?_ | refine ⟨rfl, ?_⟩)
      conv => whnf
      refine ⟨ca.pure _ rfl rfl, ?_⟩
      repeat ((conv => whnf); first | refine Br.t ?_ | refine Br.f ?_ | refine ⟨rfl, ?_⟩)
      conv => whnf
      refine ⟨by repeat ((conv => whnf); first | exact trivial | refine ⟨rfl, ?_⟩), ?_, by repeat ((conv => whnf); first | exact trivial | refine ⟨⟨_, rfl⟩, ?_⟩), ?_⟩
      · conv => whnf
        refine ⟨?_, ?_⟩
        · conv => whnf
          exact ca.pure _ rfl rfl
        repeat ((conv => whnf); first | exact trivial | refine ⟨by (conv => whnf); first | exact ⟨rfl, rfl⟩ | exact ⟨rfl, rfl, rfl⟩, ?_⟩)
      conv => whnf
      repeat ((conv => whnf); first | refine Br.t ?_ | refine Br.f ?_ | refine ⟨rfl, ?_⟩)
      conv => whnf
      refine draw_okG (own := own0) [7, 8] [(6, 8)] [(0, 8), (1, 8), (2, 8), (3, 8), (4, 8), (5, 8)] [(cfgV d, [pgB p, cfgB c, ndB' y])] rfl (by kernel_rfl) (by kernel_rfl) (Nat.zero_le _) ?_
      repeat ((conv => whnf); first | refine Br.t ?_ | refine Br.f ?_ | refine ⟨rfl, ?_⟩)
      conv => whnf
      rw [ex]
      refine ⟨⟨by omega, by simp; omega, rfl⟩, ?_⟩
      repeat ((conv => whnf); first | refine Br.t ?_ | refine Br.f ?_ | refine ⟨rfl, ?_⟩)
      conv => whnf
      refine ⟨cs.pure _ rfl rfl, ?_⟩
      repeat ((conv => whnf); first | refine Br.t ?_ | refine Br.f ?_ | refine ⟨rfl, ?_⟩)
      conv => whnf
      refine ⟨by repeat ((conv => whnf); first | exact trivial | refine ⟨rfl, ?_⟩), ?_, by repeat ((conv => whnf); first | exact trivial | refine ⟨⟨_, rfl⟩, ?_⟩), ?_⟩
      · conv => whnf
        refine ⟨?_, trivial⟩
        conv => whnf
        exact cs.pure _ rfl rfl
      conv => whnf
      repeat ((conv => whnf); first | refine Br.t ?_ | refine Br.f ?_ | refine ⟨rfl, ?_⟩)
      conv => whnf
      rcases hlen with e | ⟨e1, e2, e3⟩
      · refine Br.mk (fun h => by simp [e] at h) (fun _ => ?_)
        repeat ((conv => whnf); first | refine Br.t ?_ | refine Br.f ?_ | refine ⟨rfl, ?_⟩)
        conv => whnf
        refine W.le (s' := ⟨lkS l i [(8, .ptr 2 0 0 0), (10, .ptr 3 0 0 0), (11, .i (.int .i64 0))], lkB p c y d⟩) (Le.slots (by simp [leS, mkS, lkS])) (W.mono W1 ?_)
        rintro e s' ⟨rfl, rfl⟩
        repeat ((conv => whnf); first | refine Br.t ?_ | refine Br.f ?_ | refine ⟨rfl, ?_⟩)
        conv => whnf
        refine ⟨i + 1, by omega, by omega, ?_⟩
        rw [hrun]
        refine Le.back (fun _ => 0) (by intro id hid; rfl) (by simp) rfl (B2_cl p d _) ?_ rfl
        simp [leS, mkS, lkS, V.up]
        exact i64_id (by omega) (by omega)
      · rw [e1]
        refine Br.mk (fun h => ?_) (fun h => by first | (simp [e3] at h; done) | (simp [e3] at h; omega))
        repeat ((conv => whnf); first | refine Br.t ?_ | refine Br.f ?_ | refine ⟨rfl, ?_⟩)
        conv => whnf
        refine Br.mk (fun h => by simp [e2] at h) (fun _ => ?_)
        repeat ((conv => whnf); first | refine Br.t ?_ | refine Br.f ?_ | refine ⟨rfl, ?_⟩)
        conv => whnf
        rw [i64_id (by rw [List.length_map]; omega) (by rw [List.length_map]; omega)]
        refine Br.mk (fun h => by first | (simp [e3] at h; done) | (simp [e3] at h; omega)) (fun _ => ?_)
        repeat ((conv => whnf); first | refine Br.t ?_ | refine Br.f ?_ | refine ⟨rfl, ?_⟩)
        conv => whnf
        refine W.le (s' := ⟨lkS l i [(8, .ptr 2 0 0 0), (10, .ptr 3 0 0 0), (11, .i (.int .i64 0))], lkB p c y d⟩) (Le.slots (by simp [leS, mkS, lkS])) (W.mono W1 ?_)
        rintro e s' ⟨rfl, rfl⟩
        repeat ((conv => whnf); first | refine Br.t ?_ | refine Br.f ?_ | refine ⟨rfl, ?_⟩)
        conv => whnf
        refine ⟨i + 1, by omega, by omega, ?_⟩
        rw [hrun]
        refine Le.back (fun _ => 0) (by intro id hid; rfl) (by simp) rfl (B2_cl p d _) ?_ rfl
        simp [leS, mkS, lkS, V.up]
        exact i64_id (by omega) (by omega)
    · have g : i = l.length := by simp at g; omega
      repeat ((conv => whnf); first | refine Br.t ?_ | refine Br.f ?_ | refine ⟨rfl, ?_⟩)
      conv => whnf
      refine fin (target := []) rfl (Nat.zero_le _) (by simp) rfl rfl
end Go.Proofs.Ytiikndppckjmhaa.Am
