/- Contracts: what a pick makes of a config. -/
import Derived.Test.YtiikndppckjmhaaSmE
namespace Go.Proofs.Ytiikndppckjmhaa.Am
set_option autoImplicit false
set_option linter.unusedVariables false
set_option linter.unusedSimpArgs false
set_option maxRecDepth 10000
set_option pp.maxSteps 3000
set_option pp.proofs false
def setTh (c : Cfg) (t : Nat) (th : Th) : Cfg := ⟨c.ths.set t th, c.own⟩
def goTo (l : List (Nat × Nat)) (k : Nat) : List (Nat × Nat) := l.set (l.length - 1) ((lastF l).1, k)
/-- what a thread's step makes of a config -/
def doC (c : Cfg) (t : Nat) (th : Th) (y : Nd) (way : Bool) : Cfg :=
  if y.1 = 9 then setTh c t ⟨th.stk.dropLast, th.sl⟩ else
  let l := goTo th.stk (if y.1 = 8 ∧ way = true then y.2.2.2 else y.2.2.1).toNat
  if y.1 = 3 then ⟨c.ths.set t ⟨l, th.sl⟩, c.own.set y.2.1.toNat (t + 1)⟩ else
  if y.1 = 4 then ⟨c.ths.set t ⟨l, th.sl⟩, if c.own.getD y.2.1.toNat 0 = t + 1 then c.own.set y.2.1.toNat 0 else c.own⟩ else
  if y.1 = 5 then ⟨c.ths.set t ⟨l, th.sl.set y.2.2.2.toNat (c.ths.length + 1)⟩ ++ [th0 y.2.1.toNat], c.own⟩ else
  if y.1 = 7 then setTh c t ⟨l ++ [(y.2.1.toNat, 0)], th.sl⟩ else setTh c t ⟨l, th.sl⟩
def stepC (p : Pg) (c : Cfg) (who : Int) (way : Bool) : Cfg := if enab p c who = true then (match thAt c who with | some th => doC c who.toNat th (ndAt p c who) way | none => c) else c
theorem map_ren_lift (f : Nat → Nat) (es : List (List I)) : (lift es).map (V.ren.renAll f) = lift es := by
  simp only [lift, List.map_map]
  apply List.map_congr_left
  intro x _
  simp
theorem E2_ren (c : Cfg) (id v t len : Nat) (sl : List Nat) (f : Nat → Nat) : (E2 c id v t len sl).map (V.ren.renAll f) = E2 c (f id) v t len sl := by
  unfold E2 E0
  rw [List.map_set, map_ren_lift]
  rfl
def outT (v n : Nat) (own : List Nat) : Ob := .row 0 17 false [.ref 6 v 0 n :: (ow16 own).map .i]
def dnT (t : Nat) (y : Nd) : List V := .ptr 9 0 0 0 :: .i (.int .i64 t) :: (encNd y).map .i
def dT (thr : List (List V)) (tv n : Nat) (sv : Nat) (l : List (Nat × Nat)) (own : List Nat) (t : Nat) (y : Nd) : List Ob :=
  [.row tv 9 false thr, .dead, frB sv l, outT tv n own, ndB' y, .row 0 6 false [dnT t y]]
def dVT (t : Nat) (y : Nd) : V := .agg (dnT t y)
theorem dS_ren {thr thr' : List (List V)} (tv n sv : Nat) (l : List (Nat × Nat)) (own : List Nat) (t : Nat) (y : Nd) (h : thr.map (V.ren.renAll fun i => 6 + i) = thr') : (dS thr tv n sv l own t y).map (Ob.ren fun i => 6 + i) = dT thr' tv n sv l own t y := by
  subst h
  have e : (frB sv l).ren (fun i => 6 + i) = frB sv l := by simp only [frB, Ob.ren, map_ren_lift]
  simp only [dS, List.map_cons, List.map_nil, e]
  rfl
theorem deed {f : FuncId} {thr thr' thr1 thr1' : List (List V)} {tv n sv : Nat} {l : List (Nat × Nat)} {own : List Nat} {n0 : Nat} {l0 : List (Nat × Nat)} {own' : List Nat} {t : Nat} {y : Nd} {v v' : V} (pre : List Ob) (hp : pre.length = 6)
    (h : CallW Try.prog G0 f [dV t y] (dS thr 2 n0 2 l0 own' t y) (fun r st' => r = v ∧ st' = dS thr1 tv n sv l own t y)) (hc : ∀ cs ∈ thr, V.cl.clAll 6 cs = true) (e0 : thr.map (V.ren.renAll fun i => 6 + i) = thr') (e1 : thr1.map (V.ren.renAll fun i => 6 + i) = thr1') (ev : v.ren (fun i => 6 + i) = v') :
    CallW Try.prog G0 f [dVT t y] (pre ++ dT thr' 2 n0 2 l0 own' t y) (fun r st' => r = v' ∧ st' = pre ++ dT thr1' tv n sv l own t y) := by
  have hu := h.under pre (dS_cl (Nat.le_refl _) hc) rfl
  rw [hp, dS_ren 2 n0 2 l0 own' t y e0] at hu
  have hu2 : CallW Try.prog G0 f [dVT t y] (pre ++ dT thr' 2 n0 2 l0 own' t y) (fun r st' => ∃ r0 s0, (r0 = v ∧ s0 = dS thr1 tv n sv l own t y) ∧ (dS thr 2 n0 2 l0 own' t y).length ≤ s0.length ∧ r = r0.ren (fun i => 6 + i) ∧ st' = pre ++ s0.map (Ob.ren fun i => 6 + i)) := hu
  refine hu2.mono ?_
  rintro r st' ⟨r0, s0, ⟨rfl, rfl⟩, _, rfl, rfl⟩
  rw [dS_ren tv n sv l own t y e1]
  exact ⟨ev, rfl⟩
theorem dat_lift' (id ver : Nat) (is es : List (List I)) : (lift es).map (V.dat.datAll id ver is) = lift es := by
  simp only [lift, List.map_map]
  refine List.map_congr_left fun cs _ => ?_
  simp only [Function.comp]
  induction cs with
  | nil => rfl
  | cons c cs ih => simp [V.dat.datAll, V.dat, ih]
theorem E0_setTh (c : Cfg) (t : Nat) (th : Th) : (E0 c).set t ((encTh th).map .i) = lift ((c.ths.set t th).map encTh) := by
  unfold E0 lift
  rw [List.map_set, List.map_set]
theorem dat_E2 (c : Cfg) (v t len : Nat) (sl : List Nat) (l l' : List (Nat × Nat)) (h : (l.map encFr).take len = l'.map encFr) : (E2 c 8 v t len sl).map (V.dat.datAll 8 v (l.map encFr)) = lift ((c.ths.set t ⟨l', sl⟩).map encTh) := by
  rw [← E0_setTh]
  unfold E2
  rw [List.map_set]
  congr 1
  · exact dat_lift' _ _ _ _
  · simp only [V.dat.datAll, V.dat, if_true, List.drop_zero, h]
    rfl
def pkB (who : Int) (way : Bool) : Ob := .row 0 2 false [[.i (.int .i64 who), .i (.bool way)]]
def resB (v n : Nat) (own : List Nat) : Ob := .row 0 17 false [.ref 6 v 0 n :: (ow16 own).map .i]
def preB (p : Pg) (c : Cfg) (who : Int) (way : Bool) (R : Ob) : List Ob := [cfgB c, pgB p, pkB who way, R, .dead, .dead]
theorem preB_cl (p : Pg) (c : Cfg) (who : Int) (way : Bool) {R : Ob} {m : Nat} (hR : R.cl m) : ∀ o ∈ preB p c who way R, o.cl m := by
  intro o ho
  simp only [preB, List.mem_cons, List.not_mem_nil, or_false] at ho
  rcases ho with rfl | rfl | rfl | rfl | rfl | rfl
  · exact cfgB_cl c m
  · exact pgB_cl p m
  · intro cs hcs; simp only [List.mem_singleton] at hcs; subst hcs; rfl
  · exact hR
  · trivial
  · trivial
def endS : List V := mkS 71 [(6, .ptr 3 0 0 0)]
def endB (p : Pg) (c : Cfg) (who : Int) (way : Bool) (tv n : Nat) (own : List Nat) (ths : List (List I)) : List Ob := [cfgB c, pgB p, pkB who way, resB tv n own, .dead, .dead, .row tv 9 false (lift ths)]
theorem endB_cl (p : Pg) (c : Cfg) (who : Int) (way : Bool) (tv n : Nat) (own : List Nat) (ths : List (List I)) : ∀ o ∈ endB p c who way tv n own ths, o.cl 7 := by
  intro o ho
  have : o ∈ preB p c who way (resB tv n own) ∨ o = .row tv 9 false (lift ths) := by
    simp only [endB, preB, List.mem_cons, List.not_mem_nil, or_false] at ho ⊢
    rcases ho with h | h | h | h | h | h | h <;> simp [h]
  rcases this with h | rfl
  · refine preB_cl p c who way ?_ o h
    intro cs hcs; simp only [List.mem_singleton] at hcs; subst hcs; simp [V.cl.clAll, V.cl, ow16]
  · exact cl_lift _ _ _ _ _
theorem end_le {p : Pg} {c : Cfg} {who : Int} {way : Bool} {thr : List (List V)} {ths : List (List I)} {tv n sv : Nat} {l : List (Nat × Nat)} {own : List Nat} {t : Nat} {y : Nd} (post : List Ob) (hd : thr.map (V.dat.datAll 8 sv (l.map encFr)) = lift ths) (hp : ∃ k, (post.set 0 .dead) = List.replicate k .dead) :
    Le 0 ⟨endS, preB p c who way (resB tv n own) ++ dT thr tv n sv l own t y ++ post⟩ ⟨endS, endB p c who way tv n own ths⟩ := by
  obtain ⟨k, hk⟩ := hp
  refine (Le.kill 9).trans ((Le.kill 10).trans ((Le.kill 11).trans ((Le.kill 12).trans ?_)))
  have e : ((((preB p c who way (resB tv n own) ++ dT thr tv n sv l own t y ++ post).set 9 .dead).set 10 .dead).set 11 .dead).set 12 .dead = [cfgB c, pgB p, pkB who way, resB tv n own, .dead, .dead, .row tv 9 false thr, .dead, frB sv l, .dead, .dead, .dead] ++ List.replicate k .dead := by
    rw [← hk]
    rfl
  rw [e]
  have hdd : (List.replicate k Ob.dead).map (Ob.dat 8 sv (l.map encFr)) = List.replicate k .dead := by rw [List.map_replicate]; rfl
  refine (Le.data 8 sv 2 (l.map encFr) (s := ⟨endS, endB p c who way tv n own ths ++ ([.dead, .dead, .dead, .dead, .dead] ++ List.replicate k .dead)⟩) rfl (by simp [leS, endS, mkS, V.dat]) ?_).trans (Le.short (Nat.zero_le _) (by rfl) (endB_cl p c who way tv n own ths))
  rw [List.map_append, hdd]
  show endB p c who way tv n own ths ++ _ = _
  unfold endB
  rw [← hd]
  rfl
theorem E1_own (c : Cfg) (t : Nat) (th : Th) : (E1 c 4 t th).map (V.ren.renAll (fm [] 4)) = E2 c 8 2 t th.stk.length th.sl := by
  rw [E1_E2, E2_ren]
  rfl
theorem copied_in (p : Pg) (hp : PgOk p) (c : Cfg) (hc : OkC p c) (t : Nat) (tt : Th) (htt : c.ths[t]? = some tt) (h0 : 0 < tt.stk.length) (big : List Ob) (hb : big.length = 4) :
    CallW Try.prog G0 74 [cfgV c] big (fun r st' => r = .agg (.ref 6 2 0 c.ths.length :: (ow16 c.own).map .i) ∧ st' = big ++ [.dead, .dead, .row 2 9 false (E2 c 8 2 t tt.stk.length tt.sl), .dead, stkB tt]) := by
  refine (CallW.rise (bargs := [cfgV c]) (big := big) [] [] (copied_own p hp c hc t tt htt h0) rfl (by simp) (by simp) rfl (by simp) (by simp) rfl (fun j s v hs hv => .inl ⟨by cases j <;> simp at hs; subst hs; rfl, by cases j <;> simp at hs hv; subst hs; subst hv; rfl⟩) (.inl rfl)).mono ?_
  rintro r st' ⟨r0, s0, ⟨rfl, rfl⟩, rfl, rfl⟩
  rw [hb]
  refine ⟨rfl, ?_⟩
  simp only [putAll, List.map_cons, List.map_nil, Ob.ren, E1_own, stkB, ren_lift, map_ren_lift]
theorem goTo_len (l : List (Nat × Nat)) (k : Nat) : (goTo l k).length = l.length := by simp [goTo]
theorem goTo_goTo (l : List (Nat × Nat)) (h : 0 < l.length) (k k2 : Nat) : goTo (goTo l k) k2 = goTo l k2 := by
  unfold goTo
  rw [List.length_set, List.set_set]
  congr 2
  unfold lastF
  rw [List.getLast?_eq_getElem?, List.length_set, getElem?_set_eq' (by omega)]
  rfl
theorem frB_goTo (l : List (Nat × Nat)) (h0 : 0 < l.length) (k : Int) (n : Nat) (hk : (n : Int) = k) : (lift (l.map encFr)).set (l.length - 1) (putCells ((lift (l.map encFr)).getD (l.length - 1) []) 1 [V.i (.int .i64 k)]) = lift ((goTo l n).map encFr) := by
  subst hk
  obtain ⟨f, h1, h2, h3⟩ := last_get l h0
  have e : (lift (l.map encFr)).getD (l.length - 1) [] = (encFr f).map V.i := by simp [lift, List.getD_eq_getElem?_getD, h2]
  rw [e]
  unfold goTo lastF
  rw [h1]
  simp only [lift, List.map_set]
  rfl
theorem frl (l : List (Nat × Nat)) (h0 : 0 < l.length) : ((lift (l.map encFr)).getD (l.length - 1) []).length = 2 := by
  obtain ⟨f, h1, h2, h3⟩ := last_get l h0
  have e : (lift (l.map encFr)).getD (l.length - 1) [] = (encFr f).map V.i := by simp [lift, List.getD_eq_getElem?_getD, h2]
  rw [e]
  rfl
def tabB : Ob := .row 0 10 false [[.nilf, .nilf, .nilf, .fn (.func 77) [] [], .fn (.func 78) [] [], .fn (.func 79) [] [], .nilf, .fn (.func 80) [] [], .nilf, .fn (.func 81) [] []]]
theorem dT_cl {thr : List (List V)} {tv n sv : Nat} {l : List (Nat × Nat)} {own : List Nat} {t : Nat} {y : Nd} {m : Nat} (hm : 12 ≤ m) (h : ∀ cs ∈ thr, V.cl.clAll m cs = true) : ∀ o ∈ dT thr tv n sv l own t y, o.cl m := by
  intro o ho
  simp only [dT, List.mem_cons, List.not_mem_nil, or_false] at ho
  rcases ho with rfl | rfl | rfl | rfl | rfl | rfl
  · exact h
  · trivial
  · exact frB_cl _ _ _
  · intro cs hcs; simp only [List.mem_singleton] at hcs; subst hcs; simp [V.cl.clAll, V.cl, ow16]; omega
  · intro cs hcs; simp only [List.mem_singleton] at hcs; subst hcs; rfl
  · intro cs hcs; simp only [List.mem_singleton] at hcs; subst hcs; simp [dnT, V.cl.clAll, V.cl, encNd]; omega
theorem deedT {f : FuncId} {thr thr' thr1 thr1' : List (List V)} {tv n sv : Nat} {l : List (Nat × Nat)} {own : List Nat} {n0 : Nat} {l0 : List (Nat × Nat)} {own' : List Nat} {t : Nat} {y : Nd} (p : Pg) (c : Cfg) (who : Int) (way : Bool)
    (h : CallW Try.prog G0 f [dV t y] (dS thr 2 n0 2 l0 own' t y) (fun r st' => r = .tup [] ∧ st' = dS thr1 tv n sv l own t y)) (hc : ∀ cs ∈ thr, V.cl.clAll 6 cs = true) (e0 : thr.map (V.ren.renAll fun i => 6 + i) = thr') (e1 : thr1.map (V.ren.renAll fun i => 6 + i) = thr1') (hc0 : ∀ cs ∈ thr', V.cl.clAll 12 cs = true) (hc1 : ∀ cs ∈ thr1', V.cl.clAll 12 cs = true) :
    CallW Try.prog G0 f [dVT t y] (preB p c who way zeroB ++ dT thr' 2 n0 2 l0 own' t y ++ [tabB]) (fun r st' => r = .tup [] ∧ st' = preB p c who way zeroB ++ dT thr1' tv n sv l own t y ++ [tabB]) := by
  have hd := deed (preB p c who way zeroB) rfl h hc e0 e1 (v' := .tup []) rfl
  refine hd.tail [tabB] rfl ?_ ?_ rfl rfl
  · intro o ho
    rcases List.mem_append.1 ho with ho | ho
    · exact preB_cl p c who way (zeroB_cl _) o ho
    · exact dT_cl (Nat.le_refl _) hc0 o ho
  · intro o ho
    rcases List.mem_append.1 ho with ho | ho
    · exact preB_cl p c who way (zeroB_cl _) o ho
    · exact dT_cl (Nat.le_refl _) hc1 o ho
set_option maxHeartbeats 4000000 in
theorem semstep (p : Pg) (hp : PgOk p) (c : Cfg) (hc : OkC p c) (who : Int) (way : Bool) :
    CallW Try.prog G0 40 [cfgV c, pgV p, .agg [.i (.int .i64 who), .i (.bool way)]] [] (fun r st' => r = cfgV (stepC p c who way) ∧ st' = []) := by
  refine call_of_bodyF 0 (Nat.le_refl _) Try.func40 rfl (fun a w => Try.call40 a w) (W.weak (wpx_ok (own := own0) _ _ _ ?_))
  have hn := hc.n
  repeat ((conv => whnf); first | refine Br.t ?_ | refine Br.f ?_ | refine ⟨rfl, ?_⟩)
  conv => whnf
  refine CallW.mono ((enabled_ok p hp c hc who).pure _ rfl rfl) ?_
  rintro r st' ⟨rfl, rfl⟩
  obtain ⟨q, hq⟩ : ∃ q, q = enab p c who := ⟨_, rfl⟩
  unfold stepC
  rw [← hq]
  cases q with
  | false =>
    rw [if_neg (by simp)]
    repeat ((conv => whnf); first | refine Br.t ?_ | refine Br.f ?_ | refine ⟨rfl, ?_⟩)
    conv => whnf
    refine CallW.mono ((copied_data p hp c hc).pure _ rfl rfl) ?_
    rintro r st' ⟨rfl, rfl⟩
    repeat ((conv => whnf); first | refine Br.t ?_ | refine Br.f ?_ | refine ⟨rfl, ?_⟩)
    conv => whnf
    refine ⟨_, Le.refl _ _, ?_⟩
    repeat ((conv => whnf); first | refine Br.t ?_ | refine Br.f ?_ | refine ⟨rfl, ?_⟩)
    conv => whnf
    refine fin (target := []) rfl (Nat.zero_le _) (by simp) rfl rfl
  | true =>
    rw [if_pos rfl]
    have hlive : lives c who = true := by
      have := hq.symm
      unfold enab at this
      simp only [Bool.and_eq_true] at this
      exact this.1
    obtain ⟨t, th, f, L, rfl, hth, hs0, hf1, hL, hy, hLm, hym, hmay⟩ := nd_in hp hc hlive
    have okt := hc.th th (List.mem_of_getElem? hth)
    have htl := lt_some hth
    have hpn := hp.n.2
    have hsl16 : th.stk.length ≤ 16 := by have := okt.h; omega
    obtain ⟨y, hyy⟩ : ∃ y, y = ndAt p c (t : Int) := ⟨_, rfl⟩
    have eat : atN p c (t : Int) = y := by unfold atN; rw [if_pos hlive, hyy]
    have cat := at_ok p hp c hc (t : Int)
    rw [eat, hlive] at cat
    rw [thAt_nat, hth, ← hyy, Int.toNat_natCast]
    rw [← hyy] at hmay hy
    obtain ⟨yk, ya, yx, yz⟩ := y
    simp only
    repeat ((conv => whnf); first | refine Br.t ?_ | refine Br.f ?_ | refine ⟨rfl, ?_⟩)
    conv => whnf
    refine CallW.mono (copied_in p hp c hc t th hth hs0 _ rfl) ?_
    rintro r st' ⟨rfl, rfl⟩
    repeat ((conv => whnf); first | refine Br.t ?_ | refine Br.f ?_ | refine ⟨rfl, ?_⟩)
    conv => whnf
    refine CallW.mono (cat.pure _ rfl rfl) ?_
    rintro r st' ⟨rfl, rfl⟩
    repeat ((conv => whnf); first | refine Br.t ?_ | refine Br.f ?_ | refine ⟨rfl, ?_⟩)
    conv => whnf
    refine Br.mk (fun k9 => ?_) (fun k9 => ?_)
    · have k9 : yk = 9 := by simpa using k9
      have eD : doC c t th (yk, ya, yx, yz) way = setTh c t ⟨th.stk.dropLast, th.sl⟩ := by unfold doC; rw [if_pos k9]
      rw [eD]
      repeat ((conv => whnf); first | refine Br.t ?_ | refine Br.f ?_ | refine ⟨rfl, ?_⟩)
      conv => whnf
      refine CallW.mono (deed (preB p c (t : Int) way zeroB) rfl (back_ok c t htl th.sl th.stk hs0 hsl16 (yk, ya, yx, yz) c.own) (E2_cl c _ (by omega)) (E2_ren c 2 2 t _ th.sl _) (E2_ren c 2 2 t _ th.sl _) rfl) ?_
      rintro r st' ⟨rfl, rfl⟩
      repeat ((conv => whnf); first | refine Br.t ?_ | refine Br.f ?_ | refine ⟨rfl, ?_⟩)
      conv => whnf
      have dd := dat_E2 c 2 t (th.stk.length - 1) th.sl th.stk th.stk.dropLast (by rw [List.dropLast_eq_take, List.map_take])
      refine ⟨⟨endS, endB p c (t : Int) way 2 c.ths.length c.own ((c.ths.set t ⟨th.stk.dropLast, th.sl⟩).map encTh)⟩, (Le.slotsE (sl' := endS) (st' := preB p c (t : Int) way (resB 2 c.ths.length c.own) ++ dT (E2 c 8 2 t (th.stk.length - 1) th.sl) 2 c.ths.length 2 th.stk c.own t (yk, ya, yx, yz) ++ []) (by simp [leS, endS, mkS]) rfl).trans (end_le [] dd ⟨0, rfl⟩), ?_⟩
      repeat ((conv => whnf); first | refine Br.t ?_ | refine Br.f ?_ | refine ⟨rfl, ?_⟩)
      conv => whnf
      refine ⟨Nat.zero_le _, rfl, (c.ths.set t ⟨th.stk.dropLast, th.sl⟩).map encTh, rfl, ?_⟩
      refine fin (target := []) rfl (Nat.zero_le _) (by simp) ?_ rfl
      show V.agg (.i (.sl ((((c.ths.set t ⟨th.stk.dropLast, th.sl⟩).map encTh).drop 0).take (c.ths.length))) :: _) = _
      rw [List.drop_zero, List.take_of_length_le (by simp)]
      rfl
    · have k9 : ¬ yk = 9 := by simpa using k9
      have hL0 := (hp.f L hLm).1
      obtain ⟨n0, n1⟩ := may_next (by omega) hmay
      simp only at n0 n1
      obtain ⟨nx, hnx⟩ : ∃ nx : Nat, (nx : Int) = yx := ⟨yx.toNat, by omega⟩
      repeat ((conv => whnf); first | refine Br.t ?_ | refine Br.f ?_ | refine ⟨rfl, ?_⟩)
      conv => whnf
      refine draw_ok (own := own0) [6] [] [(.ptr 8 2 (th.stk.length - 1) 0, preB p c (t : Int) way zeroB ++ dT (E2 c 8 2 t th.stk.length th.sl) 2 c.ths.length 2 th.stk c.own t (yk, ya, yx, yz))] rfl (by kernel_rfl) (Nat.zero_le _) ?_
      repeat ((conv => whnf); first | refine Br.t ?_ | refine Br.f ?_ | refine ⟨rfl, ?_⟩)
      conv => whnf
      refine ⟨deed (preB p c (t : Int) way zeroB) rfl (top_ok c t htl th.sl th.stk hs0 hsl16 (yk, ya, yx, yz) c.own) (E2_cl c _ (by omega)) (E2_ren c 2 2 t _ th.sl _) (E2_ren c 2 2 t _ th.sl _) rfl, ?_⟩
      repeat ((conv => whnf); first | refine Br.t ?_ | refine Br.f ?_ | refine ⟨rfl, ?_⟩)
      conv => whnf
      refine ⟨by show (_ && Nat.ble _ ((lift ((th.stk).map encFr)).getD (th.stk.length - 1) []).length) = true; rw [show th.stk.length - 1 = (th.stk).length - 1 by first | rfl | rw [goTo_len], frl (th.stk) (by first | exact hs0 | rw [goTo_len]; exact hs0)]; rfl, ?_⟩
      refine fW_st (st' := preB p c (t : Int) way zeroB ++ dT (E2 c 8 2 t th.stk.length th.sl) 2 c.ths.length 2 (goTo (th.stk) nx) c.own t (yk, ya, yx, yz)) ?_ ?_
      · have e := frB_goTo (th.stk) (by first | exact hs0 | rw [goTo_len]; exact hs0) yx nx hnx
        rw [show (th.stk).length - 1 = th.stk.length - 1 by first | rfl | rw [goTo_len]] at e
        exact congrArg (fun q => preB p c (t : Int) way zeroB ++ [Ob.row 2 9 false (E2 c 8 2 t th.stk.length th.sl), .dead, .row 2 2 false q, outT 2 c.ths.length c.own, ndB' (yk, ya, yx, yz), .row 0 6 false [dnT t (yk, ya, yx, yz)]]) e
      repeat ((conv => whnf); first | refine Br.t ?_ | refine Br.f ?_ | refine ⟨rfl, ?_⟩)
      conv => whnf
      refine ⟨by repeat ((conv => whnf); first | exact trivial | refine ⟨rfl, ?_⟩), trivial, ?_⟩
      conv => whnf
      repeat ((conv => whnf); first | refine Br.t ?_ | refine Br.f ?_ | refine ⟨rfl, ?_⟩)
      conv => whnf
      refine Br.mk (fun k8 => ?_) (fun k8 => ?_)
      · have k8 : yk = 8 := by simpa using k8
        subst k8
        obtain ⟨z0, z1⟩ := may_alt (by omega) hmay rfl
        simp only at z0 z1
        obtain ⟨nz, hnz⟩ : ∃ nz : Nat, (nz : Int) = yz := ⟨yz.toNat, by omega⟩
        have eD : doC c t th (8, ya, yx, yz) way = setTh c t ⟨goTo th.stk (if way = true then nz else nx), th.sl⟩ := by
          have e1 : yz.toNat = nz := by omega
          have e2 : yx.toNat = nx := by omega
          unfold doC
          dsimp only
          rw [if_neg (by decide), if_neg (by decide), if_neg (by decide), if_neg (by decide), if_neg (by decide)]
          cases way <;> simp [setTh, e1, e2]
        rw [eD]
        cases way with
        | true =>
          have ct := top_ok c t htl th.sl (goTo th.stk nx) (by rw [goTo_len]; exact hs0) (by rw [goTo_len]; exact hsl16) (8, ya, yx, yz) c.own
          rw [goTo_len] at ct
          repeat ((conv => whnf); first | refine Br.t ?_ | refine Br.f ?_ | refine ⟨rfl, ?_⟩)
          conv => whnf
          refine draw_ok (own := own0) [6] [] [(.ptr 8 2 (th.stk.length - 1) 0, preB p c (t : Int) true zeroB ++ dT (E2 c 8 2 t th.stk.length th.sl) 2 c.ths.length 2 (goTo th.stk nx) c.own t (8, ya, yx, yz))] rfl (by kernel_rfl) (Nat.zero_le _) ?_
          repeat ((conv => whnf); first | refine Br.t ?_ | refine Br.f ?_ | refine ⟨rfl, ?_⟩)
          conv => whnf
          refine ⟨deed (preB p c (t : Int) true zeroB) rfl ct (E2_cl c _ (by omega)) (E2_ren c 2 2 t _ th.sl _) (E2_ren c 2 2 t _ th.sl _) rfl, ?_⟩
          repeat ((conv => whnf); first | refine Br.t ?_ | refine Br.f ?_ | refine ⟨rfl, ?_⟩)
          conv => whnf
          refine ⟨by show (_ && Nat.ble _ ((lift ((goTo th.stk nx).map encFr)).getD (th.stk.length - 1) []).length) = true; rw [show th.stk.length - 1 = (goTo th.stk nx).length - 1 by rw [goTo_len], frl (goTo th.stk nx) (by rw [goTo_len]; exact hs0)]; rfl, ?_⟩
          refine fW_st (st' := preB p c (t : Int) true zeroB ++ dT (E2 c 8 2 t th.stk.length th.sl) 2 c.ths.length 2 (goTo (goTo th.stk nx) nz) c.own t (8, ya, yx, yz)) ?_ ?_
          · have e := frB_goTo (goTo th.stk nx) (by rw [goTo_len]; exact hs0) yz nz hnz
            rw [show (goTo th.stk nx).length - 1 = th.stk.length - 1 by rw [goTo_len]] at e
            exact congrArg (fun q => preB p c (t : Int) true zeroB ++ [Ob.row 2 9 false (E2 c 8 2 t th.stk.length th.sl), .dead, .row 2 2 false q, outT 2 c.ths.length c.own, ndB' (8, ya, yx, yz), .row 0 6 false [dnT t (8, ya, yx, yz)]]) e
          repeat ((conv => whnf); first | refine Br.t ?_ | refine Br.f ?_ | refine ⟨rfl, ?_⟩)
          conv => whnf
          refine ⟨by repeat ((conv => whnf); first | exact trivial | refine ⟨rfl, ?_⟩), trivial, ?_⟩
          conv => whnf
          repeat ((conv => whnf); first | refine Br.t ?_ | refine Br.f ?_ | refine ⟨rfl, ?_⟩)
          conv => whnf
          refine ⟨⟨by show (0 : Int) ≤ 8; decide, by show (8 : Int) < 10; decide⟩, ?_⟩
          repeat ((conv => whnf); first | refine Br.t ?_ | refine Br.f ?_ | refine ⟨rfl, ?_⟩)
          conv => whnf
          rw [goTo_goTo _ hs0]
          have dd := dat_E2 c 2 t th.stk.length th.sl (goTo th.stk nz) (goTo th.stk nz) (List.take_of_length_le (by rw [List.length_map, goTo_len]; exact Nat.le_refl _))
          refine ⟨⟨endS, endB p c (t : Int) true 2 c.ths.length c.own ((c.ths.set t ⟨goTo th.stk nz, th.sl⟩).map encTh)⟩, (Le.slotsE (sl' := endS) (st' := preB p c (t : Int) true (resB 2 c.ths.length c.own) ++ dT (E2 c 8 2 t th.stk.length th.sl) 2 c.ths.length 2 (goTo th.stk nz) c.own t (8, ya, yx, yz) ++ [tabB]) (by simp [leS, endS, mkS]) rfl).trans (end_le [tabB] dd ⟨1, rfl⟩), ?_⟩
          repeat ((conv => whnf); first | refine Br.t ?_ | refine Br.f ?_ | refine ⟨rfl, ?_⟩)
          conv => whnf
          refine ⟨Nat.zero_le _, rfl, (c.ths.set t ⟨goTo th.stk nz, th.sl⟩).map encTh, rfl, ?_⟩
          refine fin (target := []) rfl (Nat.zero_le _) (by simp) ?_ rfl
          show V.agg (.i (.sl ((((c.ths.set t ⟨goTo th.stk nz, th.sl⟩).map encTh).drop 0).take (c.ths.length))) :: _) = _
          rw [List.drop_zero, List.take_of_length_le (by simp)]
          rfl
        | false =>
          repeat ((conv => whnf); first | refine Br.t ?_ | refine Br.f ?_ | refine ⟨rfl, ?_⟩)
          conv => whnf
          refine ⟨⟨by show (0 : Int) ≤ 8; decide, by show (8 : Int) < 10; decide⟩, ?_⟩
          repeat ((conv => whnf); first | refine Br.t ?_ | refine Br.f ?_ | refine ⟨rfl, ?_⟩)
          conv => whnf
          have dd := dat_E2 c 2 t th.stk.length th.sl (goTo th.stk nx) (goTo th.stk nx) (List.take_of_length_le (by rw [List.length_map, goTo_len]; exact Nat.le_refl _))
          refine ⟨⟨endS, endB p c (t : Int) false 2 c.ths.length c.own ((c.ths.set t ⟨goTo th.stk nx, th.sl⟩).map encTh)⟩, (Le.slotsE (sl' := endS) (st' := preB p c (t : Int) false (resB 2 c.ths.length c.own) ++ dT (E2 c 8 2 t th.stk.length th.sl) 2 c.ths.length 2 (goTo th.stk nx) c.own t (8, ya, yx, yz) ++ [tabB]) (by simp [leS, endS, mkS]) rfl).trans (end_le [tabB] dd ⟨1, rfl⟩), ?_⟩
          repeat ((conv => whnf); first | refine Br.t ?_ | refine Br.f ?_ | refine ⟨rfl, ?_⟩)
          conv => whnf
          refine ⟨Nat.zero_le _, rfl, (c.ths.set t ⟨goTo th.stk nx, th.sl⟩).map encTh, rfl, ?_⟩
          refine fin (target := []) rfl (Nat.zero_le _) (by simp) ?_ rfl
          show V.agg (.i (.sl ((((c.ths.set t ⟨goTo th.stk nx, th.sl⟩).map encTh).drop 0).take (c.ths.length))) :: _) = _
          rw [List.drop_zero, List.take_of_length_le (by simp)]
          rfl
      · have k8 : ¬ yk = 8 := by simpa using k8
        repeat ((conv => whnf); first | refine Br.t ?_ | refine Br.f ?_ | refine ⟨rfl, ?_⟩)
        conv => whnf
        have hk := may_kind hmay
        simp only at hk
        have en : (if yk = 8 ∧ way = true then yz else yx).toNat = nx := by rw [if_neg (fun h => k8 h.1)]; omega
        have dd := dat_E2 c 2 t th.stk.length th.sl (goTo th.stk nx) (goTo th.stk nx) (List.take_of_length_le (by rw [List.length_map, goTo_len]; exact Nat.le_refl _))
        have eD : ∀ y, doC c t th (yk, ya, yx, yz) way = y → doC c t th (yk, ya, yx, yz) way = y := fun _ h => h
        unfold doC
        simp only [en]
        rw [if_neg k9]
        rcases kind10 hk.1 hk.2 with rfl | rfl | rfl | rfl | rfl | rfl | rfl | rfl | rfl | rfl
        · rw [if_neg (by decide), if_neg (by decide), if_neg (by decide), if_neg (by decide)]
          refine ⟨⟨by simp, by simp⟩, ?_⟩
          repeat ((conv => whnf); first | refine Br.t ?_ | refine Br.f ?_ | refine ⟨rfl, ?_⟩)
          conv => whnf
          refine ⟨⟨endS, endB p c (t : Int) way 2 c.ths.length c.own ((c.ths.set t ⟨goTo th.stk nx, th.sl⟩).map encTh)⟩, (Le.slotsE (sl' := endS) (st' := preB p c (t : Int) way (resB 2 c.ths.length c.own) ++ dT (E2 c 8 2 t th.stk.length th.sl) 2 c.ths.length 2 (goTo th.stk nx) c.own t (_, ya, yx, yz) ++ [tabB]) (by simp [leS, endS, mkS]) rfl).trans (end_le [tabB] dd ⟨1, rfl⟩), ?_⟩
          repeat ((conv => whnf); first | refine Br.t ?_ | refine Br.f ?_ | refine ⟨rfl, ?_⟩)
          conv => whnf
          refine ⟨Nat.zero_le _, rfl, (c.ths.set t ⟨goTo th.stk nx, th.sl⟩).map encTh, rfl, ?_⟩
          refine fin (target := []) rfl (Nat.zero_le _) (by simp) ?_ rfl
          show V.agg (.i (.sl ((((c.ths.set t ⟨goTo th.stk nx, th.sl⟩).map encTh).drop 0).take (c.ths.length))) :: _) = _
          rw [List.drop_zero, List.take_of_length_le (by simp)]
          rfl
        · rw [if_neg (by decide), if_neg (by decide), if_neg (by decide), if_neg (by decide)]
          refine ⟨⟨by simp, by simp⟩, ?_⟩
          repeat ((conv => whnf); first | refine Br.t ?_ | refine Br.f ?_ | refine ⟨rfl, ?_⟩)
          conv => whnf
          refine ⟨⟨endS, endB p c (t : Int) way 2 c.ths.length c.own ((c.ths.set t ⟨goTo th.stk nx, th.sl⟩).map encTh)⟩, (Le.slotsE (sl' := endS) (st' := preB p c (t : Int) way (resB 2 c.ths.length c.own) ++ dT (E2 c 8 2 t th.stk.length th.sl) 2 c.ths.length 2 (goTo th.stk nx) c.own t (_, ya, yx, yz) ++ [tabB]) (by simp [leS, endS, mkS]) rfl).trans (end_le [tabB] dd ⟨1, rfl⟩), ?_⟩
          repeat ((conv => whnf); first | refine Br.t ?_ | refine Br.f ?_ | refine ⟨rfl, ?_⟩)
          conv => whnf
          refine ⟨Nat.zero_le _, rfl, (c.ths.set t ⟨goTo th.stk nx, th.sl⟩).map encTh, rfl, ?_⟩
          refine fin (target := []) rfl (Nat.zero_le _) (by simp) ?_ rfl
          show V.agg (.i (.sl ((((c.ths.set t ⟨goTo th.stk nx, th.sl⟩).map encTh).drop 0).take (c.ths.length))) :: _) = _
          rw [List.drop_zero, List.take_of_length_le (by simp)]
          rfl
        · rw [if_neg (by decide), if_neg (by decide), if_neg (by decide), if_neg (by decide)]
          refine ⟨⟨by simp, by simp⟩, ?_⟩
          repeat ((conv => whnf); first | refine Br.t ?_ | refine Br.f ?_ | refine ⟨rfl, ?_⟩)
          conv => whnf
          refine ⟨⟨endS, endB p c (t : Int) way 2 c.ths.length c.own ((c.ths.set t ⟨goTo th.stk nx, th.sl⟩).map encTh)⟩, (Le.slotsE (sl' := endS) (st' := preB p c (t : Int) way (resB 2 c.ths.length c.own) ++ dT (E2 c 8 2 t th.stk.length th.sl) 2 c.ths.length 2 (goTo th.stk nx) c.own t (_, ya, yx, yz) ++ [tabB]) (by simp [leS, endS, mkS]) rfl).trans (end_le [tabB] dd ⟨1, rfl⟩), ?_⟩
          repeat ((conv => whnf); first | refine Br.t ?_ | refine Br.f ?_ | refine ⟨rfl, ?_⟩)
          conv => whnf
          refine ⟨Nat.zero_le _, rfl, (c.ths.set t ⟨goTo th.stk nx, th.sl⟩).map encTh, rfl, ?_⟩
          refine fin (target := []) rfl (Nat.zero_le _) (by simp) ?_ rfl
          show V.agg (.i (.sl ((((c.ths.set t ⟨goTo th.stk nx, th.sl⟩).map encTh).drop 0).take (c.ths.length))) :: _) = _
          rw [List.drop_zero, List.take_of_length_le (by simp)]
          rfl
        · obtain ⟨a0, a1⟩ := may_lock hp hmay (.inl rfl)
          simp only at a0 a1
          obtain ⟨a, rfl⟩ : ∃ a : Nat, ya = (a : Int) := ⟨ya.toNat, by omega⟩
          rw [if_pos rfl, Int.toNat_natCast]
          refine ⟨⟨by show (0 : Int) ≤ 3; decide, by show (3 : Int) < 10; decide⟩, ?_⟩
          repeat ((conv => whnf); first | refine Br.t ?_ | refine Br.f ?_ | refine ⟨rfl, ?_⟩)
          conv => whnf
          refine CallW.mono (deedT p c (t : Int) way (lock_ok c t htl hn.2 th.stk.length th.sl (goTo th.stk nx) 3 yx yz c.own hc.own a (by omega)) (E2_cl c _ (by omega)) (E2_ren c 2 2 t _ th.sl _) (E2_ren c 2 2 t _ th.sl _) (E2_cl c _ (by omega)) (E2_cl c _ (by omega))) ?_
          rintro r st' ⟨rfl, rfl⟩
          repeat ((conv => whnf); first | refine Br.t ?_ | refine Br.f ?_ | refine ⟨rfl, ?_⟩)
          conv => whnf
          refine ⟨⟨endS, endB p c (t : Int) way 2 c.ths.length (c.own.set a (t + 1)) ((c.ths.set t ⟨goTo th.stk nx, th.sl⟩).map encTh)⟩, (Le.slotsE (sl' := endS) (st' := preB p c (t : Int) way (resB 2 c.ths.length (c.own.set a (t + 1))) ++ dT (E2 c 8 2 t th.stk.length th.sl) 2 c.ths.length 2 (goTo th.stk nx) (c.own.set a (t + 1)) t (3, (a : Int), yx, yz) ++ [tabB]) (by simp [leS, endS, mkS]) rfl).trans (end_le [tabB] dd ⟨1, rfl⟩), ?_⟩
          repeat ((conv => whnf); first | refine Br.t ?_ | refine Br.f ?_ | refine ⟨rfl, ?_⟩)
          conv => whnf
          refine ⟨Nat.zero_le _, rfl, (c.ths.set t ⟨goTo th.stk nx, th.sl⟩).map encTh, rfl, ?_⟩
          refine fin (target := []) rfl (Nat.zero_le _) (by simp) ?_ rfl
          show V.agg (.i (.sl ((((c.ths.set t ⟨goTo th.stk nx, th.sl⟩).map encTh).drop 0).take (c.ths.length))) :: _) = _
          rw [List.drop_zero, List.take_of_length_le (by simp)]
          rfl
        · obtain ⟨a0, a1⟩ := may_lock hp hmay (.inr rfl)
          simp only at a0 a1
          obtain ⟨a, rfl⟩ : ∃ a : Nat, ya = (a : Int) := ⟨ya.toNat, by omega⟩
          rw [if_neg (by decide), if_pos rfl, Int.toNat_natCast]
          refine ⟨⟨by show (0 : Int) ≤ 4; decide, by show (4 : Int) < 10; decide⟩, ?_⟩
          repeat ((conv => whnf); first | refine Br.t ?_ | refine Br.f ?_ | refine ⟨rfl, ?_⟩)
          conv => whnf
          refine CallW.mono (deedT p c (t : Int) way (unlock_ok c t htl hn.2 th.stk.length th.sl (goTo th.stk nx) 4 yx yz c.own hc.own a (by omega)) (E2_cl c _ (by omega)) (E2_ren c 2 2 t _ th.sl _) (E2_ren c 2 2 t _ th.sl _) (E2_cl c _ (by omega)) (E2_cl c _ (by omega))) ?_
          rintro r st' ⟨rfl, rfl⟩
          obtain ⟨ow, how⟩ : ∃ ow, ow = (if c.own.getD a 0 = t + 1 then c.own.set a 0 else c.own) := ⟨_, rfl⟩
          rw [← how]
          repeat ((conv => whnf); first | refine Br.t ?_ | refine Br.f ?_ | refine ⟨rfl, ?_⟩)
          conv => whnf
          refine ⟨⟨endS, endB p c (t : Int) way 2 c.ths.length ow ((c.ths.set t ⟨goTo th.stk nx, th.sl⟩).map encTh)⟩, (Le.slotsE (sl' := endS) (st' := preB p c (t : Int) way (resB 2 c.ths.length ow) ++ dT (E2 c 8 2 t th.stk.length th.sl) 2 c.ths.length 2 (goTo th.stk nx) ow t (4, (a : Int), yx, yz) ++ [tabB]) (by simp [leS, endS, mkS]) rfl).trans (end_le [tabB] dd ⟨1, rfl⟩), ?_⟩
          repeat ((conv => whnf); first | refine Br.t ?_ | refine Br.f ?_ | refine ⟨rfl, ?_⟩)
          conv => whnf
          refine ⟨Nat.zero_le _, rfl, (c.ths.set t ⟨goTo th.stk nx, th.sl⟩).map encTh, rfl, ?_⟩
          refine fin (target := []) rfl (Nat.zero_le _) (by simp) ?_ rfl
          show V.agg (.i (.sl ((((c.ths.set t ⟨goTo th.stk nx, th.sl⟩).map encTh).drop 0).take (c.ths.length))) :: _) = _
          rw [List.drop_zero, List.take_of_length_le (by simp)]
          rfl
        · obtain ⟨⟨a0, a1⟩, z0, z1⟩ := may_spawn hp hmay rfl
          simp only at a0 a1 z0 z1
          obtain ⟨a, rfl⟩ : ∃ a : Nat, ya = (a : Int) := ⟨ya.toNat, by omega⟩
          obtain ⟨z, rfl⟩ : ∃ z : Nat, yz = (z : Int) := ⟨yz.toNat, by omega⟩
          rw [if_neg (by decide), if_neg (by decide), if_pos rfl, Int.toNat_natCast, Int.toNat_natCast]
          refine ⟨⟨by show (0 : Int) ≤ 5; decide, by show (5 : Int) < 10; decide⟩, ?_⟩
          repeat ((conv => whnf); first | refine Br.t ?_ | refine Br.f ?_ | refine ⟨rfl, ?_⟩)
          conv => whnf
          have cs := spawn_ok c t htl hn.2 th.sl okt.sl (goTo th.stk nx) (by rw [goTo_len]; exact hsl16) 5 yx a z (by omega) c.own
          rw [goTo_len] at cs
          have er : (E2 c 2 2 t th.stk.length (th.sl.set z (c.ths.length + 1)) ++ lift [encTh (th0 a)]).map (V.ren.renAll fun i => 6 + i) = E2 c 8 2 t th.stk.length (th.sl.set z (c.ths.length + 1)) ++ lift [encTh (th0 a)] := by
            rw [List.map_append, E2_ren, map_ren_lift]
          refine CallW.mono (deedT p c (t : Int) way cs (E2_cl c _ (by omega)) (E2_ren c 2 2 t _ th.sl _) er (E2_cl c _ (by omega)) (fun cs hcs => ?_)) ?_
          · rcases List.mem_append.1 hcs with h | h
            · exact E2_cl c _ (by omega) cs h
            · simp [lift] at h; subst h; rfl
          rintro r st' ⟨rfl, rfl⟩
          repeat ((conv => whnf); first | refine Br.t ?_ | refine Br.f ?_ | refine ⟨rfl, ?_⟩)
          conv => whnf
          have dd2 : (E2 c 8 2 t th.stk.length (th.sl.set z (c.ths.length + 1)) ++ lift [encTh (th0 a)]).map (V.dat.datAll 8 2 ((goTo th.stk nx).map encFr)) = lift ((c.ths.set t ⟨goTo th.stk nx, th.sl.set z (c.ths.length + 1)⟩ ++ [th0 a]).map encTh) := by
            rw [List.map_append, dat_lift', dat_E2 c 2 t th.stk.length _ (goTo th.stk nx) (goTo th.stk nx) (List.take_of_length_le (by rw [List.length_map, goTo_len]; exact Nat.le_refl _)), List.map_append, lift_app]
            rfl
          refine ⟨⟨endS, endB p c (t : Int) way 3 (c.ths.length + 1) c.own ((c.ths.set t ⟨goTo th.stk nx, th.sl.set z (c.ths.length + 1)⟩ ++ [th0 a]).map encTh)⟩, (Le.slotsE (sl' := endS) (st' := preB p c (t : Int) way (resB 3 (c.ths.length + 1) c.own) ++ dT (E2 c 8 2 t th.stk.length (th.sl.set z (c.ths.length + 1)) ++ lift [encTh (th0 a)]) 3 (c.ths.length + 1) 2 (goTo th.stk nx) c.own t (5, (a : Int), yx, (z : Int)) ++ [tabB]) (by simp [leS, endS, mkS]) rfl).trans (end_le [tabB] dd2 ⟨1, rfl⟩), ?_⟩
          repeat ((conv => whnf); first | refine Br.t ?_ | refine Br.f ?_ | refine ⟨rfl, ?_⟩)
          conv => whnf
          refine ⟨Nat.zero_le _, rfl, (c.ths.set t ⟨goTo th.stk nx, th.sl.set z (c.ths.length + 1)⟩ ++ [th0 a]).map encTh, rfl, ?_⟩
          refine fin (target := []) rfl (Nat.zero_le _) (by simp) ?_ rfl
          show V.agg (.i (.sl ((((c.ths.set t ⟨goTo th.stk nx, th.sl.set z (c.ths.length + 1)⟩ ++ [th0 a]).map encTh).drop 0).take ((c.ths.length + 1)))) :: _) = _
          rw [List.drop_zero, List.take_of_length_le (by simp)]
          rfl
        · rw [if_neg (by decide), if_neg (by decide), if_neg (by decide), if_neg (by decide)]
          refine ⟨⟨by simp, by simp⟩, ?_⟩
          repeat ((conv => whnf); first | refine Br.t ?_ | refine Br.f ?_ | refine ⟨rfl, ?_⟩)
          conv => whnf
          refine ⟨⟨endS, endB p c (t : Int) way 2 c.ths.length c.own ((c.ths.set t ⟨goTo th.stk nx, th.sl⟩).map encTh)⟩, (Le.slotsE (sl' := endS) (st' := preB p c (t : Int) way (resB 2 c.ths.length c.own) ++ dT (E2 c 8 2 t th.stk.length th.sl) 2 c.ths.length 2 (goTo th.stk nx) c.own t (_, ya, yx, yz) ++ [tabB]) (by simp [leS, endS, mkS]) rfl).trans (end_le [tabB] dd ⟨1, rfl⟩), ?_⟩
          repeat ((conv => whnf); first | refine Br.t ?_ | refine Br.f ?_ | refine ⟨rfl, ?_⟩)
          conv => whnf
          refine ⟨Nat.zero_le _, rfl, (c.ths.set t ⟨goTo th.stk nx, th.sl⟩).map encTh, rfl, ?_⟩
          refine fin (target := []) rfl (Nat.zero_le _) (by simp) ?_ rfl
          show V.agg (.i (.sl ((((c.ths.set t ⟨goTo th.stk nx, th.sl⟩).map encTh).drop 0).take (c.ths.length))) :: _) = _
          rw [List.drop_zero, List.take_of_length_le (by simp)]
          rfl
        · obtain ⟨a0, a1⟩ := may_call hmay rfl
          simp only at a0 a1
          obtain ⟨a, rfl⟩ : ∃ a : Nat, ya = (a : Int) := ⟨ya.toNat, by omega⟩
          rw [if_neg (by decide), if_neg (by decide), if_neg (by decide), if_pos rfl, Int.toNat_natCast]
          refine ⟨⟨by show (0 : Int) ≤ 7; decide, by show (7 : Int) < 10; decide⟩, ?_⟩
          repeat ((conv => whnf); first | refine Br.t ?_ | refine Br.f ?_ | refine ⟨rfl, ?_⟩)
          conv => whnf
          have cs := call_ok c t htl th.sl (goTo th.stk nx) (by rw [goTo_len]; exact hsl16) 7 yx yz a c.own
          rw [goTo_len] at cs
          refine CallW.mono (deedT p c (t : Int) way cs (E2_cl c _ (by omega)) (E2_ren c 2 2 t _ th.sl _) (E2_ren c 2 3 t _ th.sl _) (E2_cl c _ (by omega)) (E2_cl c _ (by omega))) ?_
          rintro r st' ⟨rfl, rfl⟩
          repeat ((conv => whnf); first | refine Br.t ?_ | refine Br.f ?_ | refine ⟨rfl, ?_⟩)
          conv => whnf
          have dd2 := dat_E2 c 3 t (th.stk.length + 1) th.sl (goTo th.stk nx ++ [(a, 0)]) (goTo th.stk nx ++ [(a, 0)]) (List.take_of_length_le (by simp [goTo_len]))
          refine ⟨⟨endS, endB p c (t : Int) way 2 c.ths.length c.own ((c.ths.set t ⟨goTo th.stk nx ++ [(a, 0)], th.sl⟩).map encTh)⟩, (Le.slotsE (sl' := endS) (st' := preB p c (t : Int) way (resB 2 c.ths.length c.own) ++ dT (E2 c 8 3 t (th.stk.length + 1) th.sl) 2 c.ths.length 3 (goTo th.stk nx ++ [(a, 0)]) c.own t (7, (a : Int), yx, yz) ++ [tabB]) (by simp [leS, endS, mkS]) rfl).trans (end_le [tabB] dd2 ⟨1, rfl⟩), ?_⟩
          repeat ((conv => whnf); first | refine Br.t ?_ | refine Br.f ?_ | refine ⟨rfl, ?_⟩)
          conv => whnf
          refine ⟨Nat.zero_le _, rfl, (c.ths.set t ⟨goTo th.stk nx ++ [(a, 0)], th.sl⟩).map encTh, rfl, ?_⟩
          refine fin (target := []) rfl (Nat.zero_le _) (by simp) ?_ rfl
          show V.agg (.i (.sl ((((c.ths.set t ⟨goTo th.stk nx ++ [(a, 0)], th.sl⟩).map encTh).drop 0).take (c.ths.length))) :: _) = _
          rw [List.drop_zero, List.take_of_length_le (by simp)]
          rfl
        · exact absurd rfl k8
        · exact absurd rfl k9
end Go.Proofs.Ytiikndppckjmhaa.Am
