/- Contracts, part 33: texts of this session, one behind the other. -/
import Derived.Test.YtiikndppckjmhaaBdSeekSteps32
import Derived.Test.YtiikndppckjmhaaAmBx
/- Contracts: what a pick makes of a config. -/
namespace Go.Proofs.Ytiikndppckjmhaa.Am
set_option autoImplicit false
set_option linter.unusedVariables false
set_option linter.unusedSimpArgs false
set_option maxRecDepth 10000
set_option pp.maxSteps 3000
set_option pp.proofs false
def setTh (c : Cfg) (t : Nat) (th : Th) : Cfg := ⟨c.ths.set t th, c.own⟩
def goTo (l : List (Nat × Nat)) (k : Nat) : List (Nat × Nat) := l.set (l.length - 1) ((lastF l).1, k)
/-- what a thread's step makes of a config -/
def doC (c : Cfg) (t : Nat) (th : Th) (y : Nd) (way : Bool) : Cfg :=
  if y.1 = 9 then setTh c t ⟨th.stk.dropLast, th.sl⟩ else
  let l := goTo th.stk (if y.1 = 8 ∧ way = true then y.2.2.2 else y.2.2.1).toNat
  if y.1 = 3 then ⟨c.ths.set t ⟨l, th.sl⟩, c.own.set y.2.1.toNat (t + 1)⟩ else
  if y.1 = 4 then ⟨c.ths.set t ⟨l, th.sl⟩, if c.own.getD y.2.1.toNat 0 = t + 1 then c.own.set y.2.1.toNat 0 else c.own⟩ else
  if y.1 = 5 then ⟨c.ths.set t ⟨l, th.sl.set y.2.2.2.toNat (c.ths.length + 1)⟩ ++ [th0 y.2.1.toNat], c.own⟩ else
  if y.1 = 7 then setTh c t ⟨l ++ [(y.2.1.toNat, 0)], th.sl⟩ else setTh c t ⟨l, th.sl⟩
def stepC (p : Pg) (c : Cfg) (who : Int) (way : Bool) : Cfg := if enab p c who = true then (match thAt c who with | some th => doC c who.toNat th (ndAt p c who) way | none => c) else c
theorem map_ren_lift (f : Nat → Nat) (es : List (List I)) : (lift es).map (V.ren.renAll f) = lift es := by
  simp only [lift, List.map_map]
  apply List.map_congr_left
  intro x _
  simp
theorem E2_ren (c : Cfg) (id v t len : Nat) (sl : List Nat) (f : Nat → Nat) : (E2 c id v t len sl).map (V.ren.renAll f) = E2 c (f id) v t len sl := by
  unfold E2 E0
  rw [List.map_set, map_ren_lift]
  rfl
def outT (v n : Nat) (own : List Nat) : Ob := .row 0 17 false [.ref 6 v 0 n :: (ow16 own).map .i]
def dnT (t : Nat) (y : Nd) : List V := .ptr 9 0 0 0 :: .i (.int .i64 t) :: (encNd y).map .i
def dT (thr : List (List V)) (tv n : Nat) (sv : Nat) (l : List (Nat × Nat)) (own : List Nat) (t : Nat) (y : Nd) : List Ob :=
  [.row tv 9 false thr, .dead, frB sv l, outT tv n own, ndB' y, .row 0 6 false [dnT t y]]
def dVT (t : Nat) (y : Nd) : V := .agg (dnT t y)
theorem dS_ren {thr thr' : List (List V)} (tv n sv : Nat) (l : List (Nat × Nat)) (own : List Nat) (t : Nat) (y : Nd) (h : thr.map (V.ren.renAll fun i => 6 + i) = thr') : (dS thr tv n sv l own t y).map (Ob.ren fun i => 6 + i) = dT thr' tv n sv l own t y := by
  subst h
  have e : (frB sv l).ren (fun i => 6 + i) = frB sv l := by simp only [frB, Ob.ren, map_ren_lift]
  simp only [dS, List.map_cons, List.map_nil, e]
  rfl
theorem deed {f : FuncId} {thr thr' thr1 thr1' : List (List V)} {tv n sv : Nat} {l : List (Nat × Nat)} {own : List Nat} {n0 : Nat} {l0 : List (Nat × Nat)} {own' : List Nat} {t : Nat} {y : Nd} {v v' : V} (pre : List Ob) (hp : pre.length = 6)
    (h : CallW Try.prog G0 f [dV t y] (dS thr 2 n0 2 l0 own' t y) (fun r st' => r = v ∧ st' = dS thr1 tv n sv l own t y)) (hc : ∀ cs ∈ thr, V.cl.clAll 6 cs = true) (e0 : thr.map (V.ren.renAll fun i => 6 + i) = thr') (e1 : thr1.map (V.ren.renAll fun i => 6 + i) = thr1') (ev : v.ren (fun i => 6 + i) = v') :
    CallW Try.prog G0 f [dVT t y] (pre ++ dT thr' 2 n0 2 l0 own' t y) (fun r st' => r = v' ∧ st' = pre ++ dT thr1' tv n sv l own t y) := by
  have hu := h.under pre (dS_cl (Nat.le_refl _) hc) rfl
  rw [hp, dS_ren 2 n0 2 l0 own' t y e0] at hu
  have hu2 : CallW Try.prog G0 f [dVT t y] (pre ++ dT thr' 2 n0 2 l0 own' t y) (fun r st' => ∃ r0 s0, (r0 = v ∧ s0 = dS thr1 tv n sv l own t y) ∧ (dS thr 2 n0 2 l0 own' t y).length ≤ s0.length ∧ r = r0.ren (fun i => 6 + i) ∧ st' = pre ++ s0.map (Ob.ren fun i => 6 + i)) := hu
  refine hu2.mono ?_
  rintro r st' ⟨r0, s0, ⟨rfl, rfl⟩, _, rfl, rfl⟩
  rw [dS_ren tv n sv l own t y e1]
  exact ⟨ev, rfl⟩
theorem dat_lift' (id ver : Nat) (is es : List (List I)) : (lift es).map (V.dat.datAll id ver is) = lift es := by
  simp only [lift, List.map_map]
  refine List.map_congr_left fun cs _ => ?_
  simp only [Function.comp]
  induction cs with
  | nil => rfl
  | cons c cs ih => simp [V.dat.datAll, V.dat, ih]
theorem E0_setTh (c : Cfg) (t : Nat) (th : Th) : (E0 c).set t ((encTh th).map .i) = lift ((c.ths.set t th).map encTh) := by
  unfold E0 lift
  rw [List.map_set, List.map_set]
theorem dat_E2 (c : Cfg) (v t len : Nat) (sl : List Nat) (l l' : List (Nat × Nat)) (h : (l.map encFr).take len = l'.map encFr) : (E2 c 8 v t len sl).map (V.dat.datAll 8 v (l.map encFr)) = lift ((c.ths.set t ⟨l', sl⟩).map encTh) := by
  rw [← E0_setTh]
  unfold E2
  rw [List.map_set]
  congr 1
  · exact dat_lift' _ _ _ _
  · simp only [V.dat.datAll, V.dat, if_true, List.drop_zero, h]
    rfl
def pkB (who : Int) (way : Bool) : Ob := .row 0 2 false [[.i (.int .i64 who), .i (.bool way)]]
def resB (v n : Nat) (own : List Nat) : Ob := .row 0 17 false [.ref 6 v 0 n :: (ow16 own).map .i]
def preB (p : Pg) (c : Cfg) (who : Int) (way : Bool) (R : Ob) : List Ob := [cfgB c, pgB p, pkB who way, R, .dead, .dead]
theorem preB_cl (p : Pg) (c : Cfg) (who : Int) (way : Bool) {R : Ob} {m : Nat} (hR : R.cl m) : ∀ o ∈ preB p c who way R, o.cl m := by
  intro o ho
  simp only [preB, List.mem_cons, List.not_mem_nil, or_false] at ho
  rcases ho with rfl | rfl | rfl | rfl | rfl | rfl
  · exact cfgB_cl c m
  · exact pgB_cl p m
  · intro cs hcs; simp only [List.mem_singleton] at hcs; subst hcs; rfl
  · exact hR
  · trivial
  · trivial
def endS : List V := mkS 71 [(6, .ptr 3 0 0 0)]
def endB (p : Pg) (c : Cfg) (who : Int) (way : Bool) (tv n : Nat) (own : List Nat) (ths : List (List I)) : List Ob := [cfgB c, pgB p, pkB who way, resB tv n own, .dead, .dead, .row tv 9 false (lift ths)]
theorem endB_cl (p : Pg) (c : Cfg) (who : Int) (way : Bool) (tv n : Nat) (own : List Nat) (ths : List (List I)) : ∀ o ∈ endB p c who way tv n own ths, o.cl 7 := by
  intro o ho
  have : o ∈ preB p c who way (resB tv n own) ∨ o = .row tv 9 false (lift ths) := by
    simp only [endB, preB, List.mem_cons, List.not_mem_nil, or_false] at ho ⊢
    rcases ho with h | h | h | h | h | h | h <;> simp [h]
  rcases this with h | rfl
  · refine preB_cl p c who way ?_ o h
    intro cs hcs; simp only [List.mem_singleton] at hcs; subst hcs; simp [V.cl.clAll, V.cl, ow16]
  · exact cl_lift _ _ _ _ _
theorem end_le {p : Pg} {c : Cfg} {who : Int} {way : Bool} {thr : List (List V)} {ths : List (List I)} {tv n sv : Nat} {l : List (Nat × Nat)} {own : List Nat} {t : Nat} {y : Nd} (post : List Ob) (hd : thr.map (V.dat.datAll 8 sv (l.map encFr)) = lift ths) (hp : ∃ k, (post.set 0 .dead) = List.replicate k .dead) :
    Le 0 ⟨endS, preB p c who way (resB tv n own) ++ dT thr tv n sv l own t y ++ post⟩ ⟨endS, endB p c who way tv n own ths⟩ := by
  obtain ⟨k, hk⟩ := hp
  refine (Le.kill 9).trans ((Le.kill 10).trans ((Le.kill 11).trans ((Le.kill 12).trans ?_)))
  have e : ((((preB p c who way (resB tv n own) ++ dT thr tv n sv l own t y ++ post).set 9 .dead).set 10 .dead).set 11 .dead).set 12 .dead = [cfgB c, pgB p, pkB who way, resB tv n own, .dead, .dead, .row tv 9 false thr, .dead, frB sv l, .dead, .dead, .dead] ++ List.replicate k .dead := by
    rw [← hk]
    rfl
  rw [e]
  have hdd : (List.replicate k Ob.dead).map (Ob.dat 8 sv (l.map encFr)) = List.replicate k .dead := by rw [List.map_replicate]; rfl
  refine (Le.data 8 sv 2 (l.map encFr) (s := ⟨endS, endB p c who way tv n own ths ++ ([.dead, .dead, .dead, .dead, .dead] ++ List.replicate k .dead)⟩) rfl (by simp [leS, endS, mkS, V.dat]) ?_).trans (Le.short (Nat.zero_le _) (by rfl) (endB_cl p c who way tv n own ths))
  rw [List.map_append, hdd]
  show endB p c who way tv n own ths ++ _ = _
  unfold endB
  rw [← hd]
  rfl
theorem E1_own (c : Cfg) (t : Nat) (th : Th) : (E1 c 4 t th).map (V.ren.renAll (fm [] 4)) = E2 c 8 2 t th.stk.length th.sl := by
  rw [E1_E2, E2_ren]
  rfl
theorem copied_in (p : Pg) (hp : PgOk p) (c : Cfg) (hc : OkC p c) (t : Nat) (tt : Th) (htt : c.ths[t]? = some tt) (h0 : 0 < tt.stk.length) (big : List Ob) (hb : big.length = 4) :
    CallW Try.prog G0 74 [cfgV c] big (fun r st' => r = .agg (.ref 6 2 0 c.ths.length :: (ow16 c.own).map .i) ∧ st' = big ++ [.dead, .dead, .row 2 9 false (E2 c 8 2 t tt.stk.length tt.sl), .dead, stkB tt]) := by
  refine (CallW.rise (bargs := [cfgV c]) (big := big) [] [] (copied_own p hp c hc t tt htt h0) rfl (by simp) (by simp) rfl (by simp) (by simp) rfl (fun j s v hs hv => .inl ⟨by cases j <;> simp at hs; subst hs; rfl, by cases j <;> simp at hs hv; subst hs; subst hv; rfl⟩) (.inl rfl)).mono ?_
  rintro r st' ⟨r0, s0, ⟨rfl, rfl⟩, rfl, rfl⟩
  rw [hb]
  refine ⟨rfl, ?_⟩
  simp only [putAll, List.map_cons, List.map_nil, Ob.ren, E1_own, stkB, ren_lift, map_ren_lift]
theorem goTo_len (l : List (Nat × Nat)) (k : Nat) : (goTo l k).length = l.length := by simp [goTo]
theorem goTo_goTo (l : List (Nat × Nat)) (h : 0 < l.length) (k k2 : Nat) : goTo (goTo l k) k2 = goTo l k2 := by
  unfold goTo
  rw [List.length_set, List.set_set]
  congr 2
  unfold lastF
  rw [List.getLast?_eq_getElem?, List.length_set, getElem?_set_eq' (by omega)]
  rfl
theorem frB_goTo (l : List (Nat × Nat)) (h0 : 0 < l.length) (k : Int) (n : Nat) (hk : (n : Int) = k) : (lift (l.map encFr)).set (l.length - 1) (putCells ((lift (l.map encFr)).getD (l.length - 1) []) 1 [V.i (.int .i64 k)]) = lift ((goTo l n).map encFr) := by
  subst hk
  obtain ⟨f, h1, h2, h3⟩ := last_get l h0
  have e : (lift (l.map encFr)).getD (l.length - 1) [] = (encFr f).map V.i := by simp [lift, List.getD_eq_getElem?_getD, h2]
  rw [e]
  unfold goTo lastF
  rw [h1]
  simp only [lift, List.map_set]
  rfl
theorem frl (l : List (Nat × Nat)) (h0 : 0 < l.length) : ((lift (l.map encFr)).getD (l.length - 1) []).length = 2 := by
  obtain ⟨f, h1, h2, h3⟩ := last_get l h0
  have e : (lift (l.map encFr)).getD (l.length - 1) [] = (encFr f).map V.i := by simp [lift, List.getD_eq_getElem?_getD, h2]
  rw [e]
  rfl
def tabB : Ob := .row 0 10 false [[.nilf, .nilf, .nilf, .fn (.func 77) [] [], .fn (.func 78) [] [], .fn (.func 79) [] [], .nilf, .fn (.func 80) [] [], .nilf, .fn (.func 81) [] []]]
theorem dT_cl {thr : List (List V)} {tv n sv : Nat} {l : List (Nat × Nat)} {own : List Nat} {t : Nat} {y : Nd} {m : Nat} (hm : 12 ≤ m) (h : ∀ cs ∈ thr, V.cl.clAll m cs = true) : ∀ o ∈ dT thr tv n sv l own t y, o.cl m := by
  intro o ho
  simp only [dT, List.mem_cons, List.not_mem_nil, or_false] at ho
  rcases ho with rfl | rfl | rfl | rfl | rfl | rfl
  · exact h
  · trivial
  · exact frB_cl _ _ _
  · intro cs hcs; simp only [List.mem_singleton] at hcs; subst hcs; simp [V.cl.clAll, V.cl, ow16]; omega
  · intro cs hcs; simp only [List.mem_singleton] at hcs; subst hcs; rfl
  · intro cs hcs; simp only [List.mem_singleton] at hcs; subst hcs; simp [dnT, V.cl.clAll, V.cl, encNd]; omega
theorem deedT {f : FuncId} {thr thr' thr1 thr1' : List (List V)} {tv n sv : Nat} {l : List (Nat × Nat)} {own : List Nat} {n0 : Nat} {l0 : List (Nat × Nat)} {own' : List Nat} {t : Nat} {y : Nd} (p : Pg) (c : Cfg) (who : Int) (way : Bool)
    (h : CallW Try.prog G0 f [dV t y] (dS thr 2 n0 2 l0 own' t y) (fun r st' => r = .tup [] ∧ st' = dS thr1 tv n sv l own t y)) (hc : ∀ cs ∈ thr, V.cl.clAll 6 cs = true) (e0 : thr.map (V.ren.renAll fun i => 6 + i) = thr') (e1 : thr1.map (V.ren.renAll fun i => 6 + i) = thr1') (hc0 : ∀ cs ∈ thr', V.cl.clAll 12 cs = true) (hc1 : ∀ cs ∈ thr1', V.cl.clAll 12 cs = true) :
    CallW Try.prog G0 f [dVT t y] (preB p c who way zeroB ++ dT thr' 2 n0 2 l0 own' t y ++ [tabB]) (fun r st' => r = .tup [] ∧ st' = preB p c who way zeroB ++ dT thr1' tv n sv l own t y ++ [tabB]) := by
  have hd := deed (preB p c who way zeroB) rfl h hc e0 e1 (v' := .tup []) rfl
  refine hd.tail [tabB] rfl ?_ ?_ rfl rfl
  · intro o ho
    rcases List.mem_append.1 ho with ho | ho
    · exact preB_cl p c who way (zeroB_cl _) o ho
    · exact dT_cl (Nat.le_refl _) hc0 o ho
  · intro o ho
    rcases List.mem_append.1 ho with ho | ho
    · exact preB_cl p c who way (zeroB_cl _) o ho
    · exact dT_cl (Nat.le_refl _) hc1 o ho
set_option maxHeartbeats 4000000 in
theorem semstep (p : Pg) (hp : PgOk p) (c : Cfg) (hc : OkC p c) (who : Int) (way : Bool) :
    CallW Try.prog G0 40 [cfgV c, pgV p, .agg [.i (.int .i64 who), .i (.bool way)]] [] (fun r st' => r = cfgV (stepC p c who way) ∧ st' = []) := by
  refine call_of_bodyF 0 (Nat.le_refl _) Try.func40 rfl (fun a w => Try.call40 a w) (W.weak (wpx_ok (own := own0) _ _ _ ?_))
  have hn := hc.n
  repeat ((conv => whnf); first | refine Br.t ?_ | refine Br.f ?_ | refine ⟨rfl, ?_⟩)
  conv => whnf
  refine CallW.mono ((enabled_ok p hp c hc who).pure _ rfl rfl) ?_
  rintro r st' ⟨rfl, rfl⟩
  obtain ⟨q, hq⟩ : ∃ q, q = enab p c who := ⟨_, rfl⟩
  unfold stepC
  rw [← hq]
  cases q with
  | false =>
    rw [if_neg (by simp)]
    repeat ((conv => whnf); first | refine Br.t ?_ | refine Br.f ?_ | refine ⟨rfl, ?_⟩)
    conv => whnf
    refine CallW.mono ((copied_data p hp c hc).pure _ rfl rfl) ?_
    rintro r st' ⟨rfl, rfl⟩
    repeat ((conv => whnf); first | refine Br.t ?_ | refine Br.f ?_ | refine ⟨rfl, ?_⟩)
    conv => whnf
    refine ⟨_, Le.refl _ _, ?_⟩
    repeat ((conv => whnf); first | refine Br.t ?_ | refine Br.f ?_ | refine ⟨rfl, ?_⟩)
    conv => whnf
    refine fin (target := []) rfl (Nat.zero_le _) (by simp) rfl rfl
  | true =>
    rw [if_pos rfl]
    have hlive : lives c who = true := by
      have := hq.symm
      unfold enab at this
      simp only [Bool.and_eq_true] at this
      exact this.1
    obtain ⟨t, th, f, L, rfl, hth, hs0, hf1, hL, hy, hLm, hym, hmay⟩ := nd_in hp hc hlive
    have okt := hc.th th (List.mem_of_getElem? hth)
    have htl := lt_some hth
    have hpn := hp.n.2
    have hsl16 : th.stk.length ≤ 16 := by have := okt.h; omega
    obtain ⟨y, hyy⟩ : ∃ y, y = ndAt p c (t : Int) := ⟨_, rfl⟩
    have eat : atN p c (t : Int) = y := by unfold atN; rw [if_pos hlive, hyy]
    have cat := at_ok p hp c hc (t : Int)
    rw [eat, hlive] at cat
    rw [thAt_nat, hth, ← hyy, Int.toNat_natCast]
    rw [← hyy] at hmay hy
    obtain ⟨yk, ya, yx, yz⟩ := y
    simp only
    repeat ((conv => whnf); first | refine Br.t ?_ | refine Br.f ?_ | refine ⟨rfl, ?_⟩)
    conv => whnf
    refine CallW.mono (copied_in p hp c hc t th hth hs0 _ rfl) ?_
    rintro r st' ⟨rfl, rfl⟩
    repeat ((conv => whnf); first | refine Br.t ?_ | refine Br.f ?_ | refine ⟨rfl, ?_⟩)
    conv => whnf
    refine CallW.mono (cat.pure _ rfl rfl) ?_
    rintro r st' ⟨rfl, rfl⟩
    repeat ((conv => whnf); first | refine Br.t ?_ | refine Br.f ?_ | refine ⟨rfl, ?_⟩)
    conv => whnf
    refine Br.mk (fun k9 => ?_) (fun k9 => ?_)
    · have k9 : yk = 9 := by simpa using k9
      have eD : doC c t th (yk, ya, yx, yz) way = setTh c t ⟨th.stk.dropLast, th.sl⟩ := by unfold doC; rw [if_pos k9]
      rw [eD]
      repeat ((conv => whnf); first | refine Br.t ?_ | refine Br.f ?_ | refine ⟨rfl, ?_⟩)
      conv => whnf
      refine CallW.mono (deed (preB p c (t : Int) way zeroB) rfl (back_ok c t htl th.sl th.stk hs0 hsl16 (yk, ya, yx, yz) c.own) (E2_cl c _ (by omega)) (E2_ren c 2 2 t _ th.sl _) (E2_ren c 2 2 t _ th.sl _) rfl) ?_
      rintro r st' ⟨rfl, rfl⟩
      repeat ((conv => whnf); first | refine Br.t ?_ | refine Br.f ?_ | refine ⟨rfl, ?_⟩)
      conv => whnf
      have dd := dat_E2 c 2 t (th.stk.length - 1) th.sl th.stk th.stk.dropLast (by rw [List.dropLast_eq_take, List.map_take])
      refine ⟨⟨endS, endB p c (t : Int) way 2 c.ths.length c.own ((c.ths.set t ⟨th.stk.dropLast, th.sl⟩).map encTh)⟩, (Le.slotsE (sl' := endS) (st' := preB p c (t : Int) way (resB 2 c.ths.length c.own) ++ dT (E2 c 8 2 t (th.stk.length - 1) th.sl) 2 c.ths.length 2 th.stk c.own t (yk, ya, yx, yz) ++ []) (by simp [leS, endS, mkS]) rfl).trans (end_le [] dd ⟨0, rfl⟩), ?_⟩
      repeat ((conv => whnf); first | refine Br.t ?_ | refine Br.f ?_ | refine ⟨rfl, ?_⟩)
      conv => whnf
      refine ⟨Nat.zero_le _, rfl, (c.ths.set t ⟨th.stk.dropLast, th.sl⟩).map encTh, rfl, ?_⟩
      refine fin (target := []) rfl (Nat.zero_le _) (by simp) ?_ rfl
      show V.agg (.i (.sl ((((c.ths.set t ⟨th.stk.dropLast, th.sl⟩).map encTh).drop 0).take (c.ths.length))) :: _) = _
      rw [List.drop_zero, List.take_of_length_le (by simp)]
      rfl
    · have k9 : ¬ yk = 9 := by simpa using k9
      have hL0 := (hp.f L hLm).1
      obtain ⟨n0, n1⟩ := may_next (by omega) hmay
      simp only at n0 n1
      obtain ⟨nx, hnx⟩ : ∃ nx : Nat, (nx : Int) = yx := ⟨yx.toNat, by omega⟩
      repeat ((conv => whnf); first | refine Br.t ?_ | refine Br.f ?_ | refine ⟨rfl, ?_⟩)
      conv => whnf
      refine draw_ok (own := own0) [6] [] [(.ptr 8 2 (th.stk.length - 1) 0, preB p c (t : Int) way zeroB ++ dT (E2 c 8 2 t th.stk.length th.sl) 2 c.ths.length 2 th.stk c.own t (yk, ya, yx, yz))] rfl (by kernel_rfl) (Nat.zero_le _) ?_
      repeat ((conv => whnf); first | refine Br.t ?_ | refine Br.f ?_ | refine ⟨rfl, ?_⟩)
      conv => whnf
      refine ⟨deed (preB p c (t : Int) way zeroB) rfl (top_ok c t htl th.sl th.stk hs0 hsl16 (yk, ya, yx, yz) c.own) (E2_cl c _ (by omega)) (E2_ren c 2 2 t _ th.sl _) (E2_ren c 2 2 t _ th.sl _) rfl, ?_⟩
      repeat ((conv => whnf); first | refine Br.t ?_ | refine Br.f ?_ | refine ⟨rfl, ?_⟩)
      conv => whnf
      refine ⟨by show (_ && Nat.ble _ ((lift ((th.stk).map encFr)).getD (th.stk.length - 1) []).length) = true; rw [show th.stk.length - 1 = (th.stk).length - 1 by first | rfl | rw [goTo_len], frl (th.stk) (by first | exact hs0 | rw [goTo_len]; exact hs0)]; rfl, ?_⟩
      refine fW_st (st' := preB p c (t : Int) way zeroB ++ dT (E2 c 8 2 t th.stk.length th.sl) 2 c.ths.length 2 (goTo (th.stk) nx) c.own t (yk, ya, yx, yz)) ?_ ?_
      · have e := frB_goTo (th.stk) (by first | exact hs0 | rw [goTo_len]; exact hs0) yx nx hnx
        rw [show (th.stk).length - 1 = th.stk.length - 1 by first | rfl | rw [goTo_len]] at e
        exact congrArg (fun q => preB p c (t : Int) way zeroB ++ [Ob.row 2 9 false (E2 c 8 2 t th.stk.length th.sl), .dead, .row 2 2 false q, outT 2 c.ths.length c.own, ndB' (yk, ya, yx, yz), .row 0 6 false [dnT t (yk, ya, yx, yz)]]) e
      repeat ((conv => whnf); first | refine Br.t ?_ | refine Br.f ?_ | refine ⟨rfl, ?_⟩)
      conv => whnf
      refine ⟨by repeat ((conv => whnf); first | exact trivial | refine ⟨rfl, ?_⟩), trivial, ?_⟩
      conv => whnf
      repeat ((conv => whnf); first | refine Br.t ?_ | refine Br.f ?_ | refine ⟨rfl, ?_⟩)
      conv => whnf
      refine Br.mk (fun k8 => ?_) (fun k8 => ?_)
      · have k8 : yk = 8 := by simpa using k8
        subst k8
        obtain ⟨z0, z1⟩ := may_alt (by omega) hmay rfl
        simp only at z0 z1
        obtain ⟨nz, hnz⟩ : ∃ nz : Nat, (nz : Int) = yz := ⟨yz.toNat, by omega⟩
        have eD : doC c t th (8, ya, yx, yz) way = setTh c t ⟨goTo th.stk (if way = true then nz else nx), th.sl⟩ := by
          have e1 : yz.toNat = nz := by omega
          have e2 : yx.toNat = nx := by omega
          unfold doC
          dsimp only
          rw [if_neg (by decide), if_neg (by decide), if_neg (by decide), if_neg (by decide), if_neg (by decide)]
          cases way <;> simp [setTh, e1, e2]
        rw [eD]
        cases way with
        | true =>
          have ct := top_ok c t htl th.sl (goTo th.stk nx) (by rw [goTo_len]; exact hs0) (by rw [goTo_len]; exact hsl16) (8, ya, yx, yz) c.own
          rw [goTo_len] at ct
          repeat ((conv => whnf); first | refine Br.t ?_ | refine Br.f ?_ | refine ⟨rfl, ?_⟩)
          conv => whnf
          refine draw_ok (own := own0) [6] [] [(.ptr 8 2 (th.stk.length - 1) 0, preB p c (t : Int) true zeroB ++ dT (E2 c 8 2 t th.stk.length th.sl) 2 c.ths.length 2 (goTo th.stk nx) c.own t (8, ya, yx, yz))] rfl (by kernel_rfl) (Nat.zero_le _) ?_
          repeat ((conv => whnf); first | refine Br.t ?_ | refine Br.f ?_ | refine ⟨rfl, ?_⟩)
          conv => whnf
          refine ⟨deed (preB p c (t : Int) true zeroB) rfl ct (E2_cl c _ (by omega)) (E2_ren c 2 2 t _ th.sl _) (E2_ren c 2 2 t _ th.sl _) rfl, ?_⟩
          repeat ((conv => whnf); first | refine Br.t ?_ | refine Br.f ?_ | refine ⟨rfl, ?_⟩)
          conv => whnf
          refine ⟨by show (_ && Nat.ble _ ((lift ((goTo th.stk nx).map encFr)).getD (th.stk.length - 1) []).length) = true; rw [show th.stk.length - 1 = (goTo th.stk nx).length - 1 by rw [goTo_len], frl (goTo th.stk nx) (by rw [goTo_len]; exact hs0)]; rfl, ?_⟩
          refine fW_st (st' := preB p c (t : Int) true zeroB ++ dT (E2 c 8 2 t th.stk.length th.sl) 2 c.ths.length 2 (goTo (goTo th.stk nx) nz) c.own t (8, ya, yx, yz)) ?_ ?_
          · have e := frB_goTo (goTo th.stk nx) (by rw [goTo_len]; exact hs0) yz nz hnz
            rw [show (goTo th.stk nx).length - 1 = th.stk.length - 1 by rw [goTo_len]] at e
            exact congrArg (fun q => preB p c (t : Int) true zeroB ++ [Ob.row 2 9 false (E2 c 8 2 t th.stk.length th.sl), .dead, .row 2 2 false q, outT 2 c.ths.length c.own, ndB' (8, ya, yx, yz), .row 0 6 false [dnT t (8, ya, yx, yz)]]) e
          repeat ((conv => whnf); first | refine Br.t ?_ | refine Br.f ?_ | refine ⟨rfl, ?_⟩)
          conv => whnf
          refine ⟨by repeat ((conv => whnf); first | exact trivial | refine ⟨rfl, ?_⟩), trivial, ?_⟩
          conv => whnf
          repeat ((conv => whnf); first | refine Br.t ?_ | refine Br.f ?_ | refine ⟨rfl, ?_⟩)
          conv => whnf
          refine ⟨⟨by show (0 : Int) ≤ 8; decide, by show (8 : Int) < 10; decide⟩, ?_⟩
          repeat ((conv => whnf); first | refine Br.t ?_ | refine Br.f ?_ | refine ⟨rfl, ?_⟩)
          conv => whnf
          rw [goTo_goTo _ hs0]
          have dd := dat_E2 c 2 t th.stk.length th.sl (goTo th.stk nz) (goTo th.stk nz) (List.take_of_length_le (by rw [List.length_map, goTo_len]; exact Nat.le_refl _))
          refine ⟨⟨endS, endB p c (t : Int) true 2 c.ths.length c.own ((c.ths.set t ⟨goTo th.stk nz, th.sl⟩).map encTh)⟩, (Le.slotsE (sl' := endS) (st' := preB p c (t : Int) true (resB 2 c.ths.length c.own) ++ dT (E2 c 8 2 t th.stk.length th.sl) 2 c.ths.length 2 (goTo th.stk nz) c.own t (8, ya, yx, yz) ++ [tabB]) (by simp [leS, endS, mkS]) rfl).trans (end_le [tabB] dd ⟨1, rfl⟩), ?_⟩
          repeat ((conv => whnf); first | refine Br.t ?_ | refine Br.f ?_ | refine ⟨rfl, ?_⟩)
          conv => whnf
          refine ⟨Nat.zero_le _, rfl, (c.ths.set t ⟨goTo th.stk nz, th.sl⟩).map encTh, rfl, ?_⟩
          refine fin (target := []) rfl (Nat.zero_le _) (by simp) ?_ rfl
          show V.agg (.i (.sl ((((c.ths.set t ⟨goTo th.stk nz, th.sl⟩).map encTh).drop 0).take (c.ths.length))) :: _) = _
          rw [List.drop_zero, List.take_of_length_le (by simp)]
          rfl
        | false =>
          repeat ((conv => whnf); first | refine Br.t ?_ | refine Br.f ?_ | refine ⟨rfl, ?_⟩)
          conv => whnf
          refine ⟨⟨by show (0 : Int) ≤ 8; decide, by show (8 : Int) < 10; decide⟩, ?_⟩
          repeat ((conv => whnf); first | refine Br.t ?_ | refine Br.f ?_ | refine ⟨rfl, ?_⟩)
          conv => whnf
          have dd := dat_E2 c 2 t th.stk.length th.sl (goTo th.stk nx) (goTo th.stk nx) (List.take_of_length_le (by rw [List.length_map, goTo_len]; exact Nat.le_refl _))
          refine ⟨⟨endS, endB p c (t : Int) false 2 c.ths.length c.own ((c.ths.set t ⟨goTo th.stk nx, th.sl⟩).map encTh)⟩, (Le.slotsE (sl' := endS) (st' := preB p c (t : Int) false (resB 2 c.ths.length c.own) ++ dT (E2 c 8 2 t th.stk.length th.sl) 2 c.ths.length 2 (goTo th.stk nx) c.own t (8, ya, yx, yz) ++ [tabB]) (by simp [leS, endS, mkS]) rfl).trans (end_le [tabB] dd ⟨1, rfl⟩), ?_⟩
          repeat ((conv => whnf); first | refine Br.t ?_ | refine Br.f ?_ | refine ⟨rfl, ?_⟩)
          conv => whnf
          refine ⟨Nat.zero_le _, rfl, (c.ths.set t ⟨goTo th.stk nx, th.sl⟩).map encTh, rfl, ?_⟩
          refine fin (target := []) rfl (Nat.zero_le _) (by simp) ?_ rfl
          show V.agg (.i (.sl ((((c.ths.set t ⟨goTo th.stk nx, th.sl⟩).map encTh).drop 0).take (c.ths.length))) :: _) = _
          rw [List.drop_zero, List.take_of_length_le (by simp)]
          rfl
      · have k8 : ¬ yk = 8 := by simpa using k8
        repeat ((conv => whnf); first | refine Br.t ?_ | refine Br.f ?_ | refine ⟨rfl, ?_⟩)
        conv => whnf
        have hk := may_kind hmay
        simp only at hk
        have en : (if yk = 8 ∧ way = true then yz else yx).toNat = nx := by rw [if_neg (fun h => k8 h.1)]; omega
        have dd := dat_E2 c 2 t th.stk.length th.sl (goTo th.stk nx) (goTo th.stk nx) (List.take_of_length_le (by rw [List.length_map, goTo_len]; exact Nat.le_refl _))
        have eD : ∀ y, doC c t th (yk, ya, yx, yz) way = y → doC c t th (yk, ya, yx, yz) way = y := fun _ h => h
        unfold doC
        simp only [en]
        rw [if_neg k9]
        rcases kind10 hk.1 hk.2 with rfl | rfl | rfl | rfl | rfl | rfl | rfl | rfl | rfl | rfl
        · rw [if_neg (by decide), if_neg (by decide), if_neg (by decide), if_neg (by decide)]
          refine ⟨⟨by simp, by simp⟩, ?_⟩
          repeat ((conv => whnf); first | refine Br.t ?_ | refine Br.f ?_ | refine ⟨rfl, ?_⟩)
          conv => whnf
          refine ⟨⟨endS, endB p c (t : Int) way 2 c.ths.length c.own ((c.ths.set t ⟨goTo th.stk nx, th.sl⟩).map encTh)⟩, (Le.slotsE (sl' := endS) (st' := preB p c (t : Int) way (resB 2 c.ths.length c.own) ++ dT (E2 c 8 2 t th.stk.length th.sl) 2 c.ths.length 2 (goTo th.stk nx) c.own t (_, ya, yx, yz) ++ [tabB]) (by simp [leS, endS, mkS]) rfl).trans (end_le [tabB] dd ⟨1, rfl⟩), ?_⟩
          repeat ((conv => whnf); first | refine Br.t ?_ | refine Br.f ?_ | refine ⟨rfl, ?_⟩)
          conv => whnf
          refine ⟨Nat.zero_le _, rfl, (c.ths.set t ⟨goTo th.stk nx, th.sl⟩).map encTh, rfl, ?_⟩
          refine fin (target := []) rfl (Nat.zero_le _) (by simp) ?_ rfl
          show V.agg (.i (.sl ((((c.ths.set t ⟨goTo th.stk nx, th.sl⟩).map encTh).drop 0).take (c.ths.length))) :: _) = _
          rw [List.drop_zero, List.take_of_length_le (by simp)]
          rfl
        · rw [if_neg (by decide), if_neg (by decide), if_neg (by decide), if_neg (by decide)]
          refine ⟨⟨by simp, by simp⟩, ?_⟩
          repeat ((conv => whnf); first | refine Br.t ?_ | refine Br.f ?_ | refine ⟨rfl, ?_⟩)
          conv => whnf
          refine ⟨⟨endS, endB p c (t : Int) way 2 c.ths.length c.own ((c.ths.set t ⟨goTo th.stk nx, th.sl⟩).map encTh)⟩, (Le.slotsE (sl' := endS) (st' := preB p c (t : Int) way (resB 2 c.ths.length c.own) ++ dT (E2 c 8 2 t th.stk.length th.sl) 2 c.ths.length 2 (goTo th.stk nx) c.own t (_, ya, yx, yz) ++ [tabB]) (by simp [leS, endS, mkS]) rfl).trans (end_le [tabB] dd ⟨1, rfl⟩), ?_⟩
          repeat ((conv => whnf); first | refine Br.t ?_ | refine Br.f ?_ | refine ⟨rfl, ?_⟩)
          conv => whnf
          refine ⟨Nat.zero_le _, rfl, (c.ths.set t ⟨goTo th.stk nx, th.sl⟩).map encTh, rfl, ?_⟩
          refine fin (target := []) rfl (Nat.zero_le _) (by simp) ?_ rfl
          show V.agg (.i (.sl ((((c.ths.set t ⟨goTo th.stk nx, th.sl⟩).map encTh).drop 0).take (c.ths.length))) :: _) = _
          rw [List.drop_zero, List.take_of_length_le (by simp)]
          rfl
        · rw [if_neg (by decide), if_neg (by decide), if_neg (by decide), if_neg (by decide)]
          refine ⟨⟨by simp, by simp⟩, ?_⟩
          repeat ((conv => whnf); first | refine Br.t ?_ | refine Br.f ?_ | refine ⟨rfl, ?_⟩)
          conv => whnf
          refine ⟨⟨endS, endB p c (t : Int) way 2 c.ths.length c.own ((c.ths.set t ⟨goTo th.stk nx, th.sl⟩).map encTh)⟩, (Le.slotsE (sl' := endS) (st' := preB p c (t : Int) way (resB 2 c.ths.length c.own) ++ dT (E2 c 8 2 t th.stk.length th.sl) 2 c.ths.length 2 (goTo th.stk nx) c.own t (_, ya, yx, yz) ++ [tabB]) (by simp [leS, endS, mkS]) rfl).trans (end_le [tabB] dd ⟨1, rfl⟩), ?_⟩
          repeat ((conv => whnf); first | refine Br.t ?_ | refine Br.f ?_ | refine ⟨rfl, ?_⟩)
          conv => whnf
          refine ⟨Nat.zero_le _, rfl, (c.ths.set t ⟨goTo th.stk nx, th.sl⟩).map encTh, rfl, ?_⟩
          refine fin (target := []) rfl (Nat.zero_le _) (by simp) ?_ rfl
          show V.agg (.i (.sl ((((c.ths.set t ⟨goTo th.stk nx, th.sl⟩).map encTh).drop 0).take (c.ths.length))) :: _) = _
          rw [List.drop_zero, List.take_of_length_le (by simp)]
          rfl
        · obtain ⟨a0, a1⟩ := may_lock hp hmay (.inl rfl)
          simp only at a0 a1
          obtain ⟨a, rfl⟩ : ∃ a : Nat, ya = (a : Int) := ⟨ya.toNat, by omega⟩
          rw [if_pos rfl, Int.toNat_natCast]
          refine ⟨⟨by show (0 : Int) ≤ 3; decide, by show (3 : Int) < 10; decide⟩, ?_⟩
          repeat ((conv => whnf); first | refine Br.t ?_ | refine Br.f ?_ | refine ⟨rfl, ?_⟩)
          conv => whnf
          refine CallW.mono (deedT p c (t : Int) way (lock_ok c t htl hn.2 th.stk.length th.sl (goTo th.stk nx) 3 yx yz c.own hc.own a (by omega)) (E2_cl c _ (by omega)) (E2_ren c 2 2 t _ th.sl _) (E2_ren c 2 2 t _ th.sl _) (E2_cl c _ (by omega)) (E2_cl c _ (by omega))) ?_
          rintro r st' ⟨rfl, rfl⟩
          repeat ((conv => whnf); first | refine Br.t ?_ | refine Br.f ?_ | refine ⟨rfl, ?_⟩)
          conv => whnf
          refine ⟨⟨endS, endB p c (t : Int) way 2 c.ths.length (c.own.set a (t + 1)) ((c.ths.set t ⟨goTo th.stk nx, th.sl⟩).map encTh)⟩, (Le.slotsE (sl' := endS) (st' := preB p c (t : Int) way (resB 2 c.ths.length (c.own.set a (t + 1))) ++ dT (E2 c 8 2 t th.stk.length th.sl) 2 c.ths.length 2 (goTo th.stk nx) (c.own.set a (t + 1)) t (3, (a : Int), yx, yz) ++ [tabB]) (by simp [leS, endS, mkS]) rfl).trans (end_le [tabB] dd ⟨1, rfl⟩), ?_⟩
          repeat ((conv => whnf); first | refine Br.t ?_ | refine Br.f ?_ | refine ⟨rfl, ?_⟩)
          conv => whnf
          refine ⟨Nat.zero_le _, rfl, (c.ths.set t ⟨goTo th.stk nx, th.sl⟩).map encTh, rfl, ?_⟩
          refine fin (target := []) rfl (Nat.zero_le _) (by simp) ?_ rfl
          show V.agg (.i (.sl ((((c.ths.set t ⟨goTo th.stk nx, th.sl⟩).map encTh).drop 0).take (c.ths.length))) :: _) = _
          rw [List.drop_zero, List.take_of_length_le (by simp)]
          rfl
        · obtain ⟨a0, a1⟩ := may_lock hp hmay (.inr rfl)
          simp only at a0 a1
          obtain ⟨a, rfl⟩ : ∃ a : Nat, ya = (a : Int) := ⟨ya.toNat, by omega⟩
          rw [if_neg (by decide), if_pos rfl, Int.toNat_natCast]
          refine ⟨⟨by show (0 : Int) ≤ 4; decide, by show (4 : Int) < 10; decide⟩, ?_⟩
          repeat ((conv => whnf); first | refine Br.t ?_ | refine Br.f ?_ | refine ⟨rfl, ?_⟩)
          conv => whnf
          refine CallW.mono (deedT p c (t : Int) way (unlock_ok c t htl hn.2 th.stk.length th.sl (goTo th.stk nx) 4 yx yz c.own hc.own a (by omega)) (E2_cl c _ (by omega)) (E2_ren c 2 2 t _ th.sl _) (E2_ren c 2 2 t _ th.sl _) (E2_cl c _ (by omega)) (E2_cl c _ (by omega))) ?_
          rintro r st' ⟨rfl, rfl⟩
          obtain ⟨ow, how⟩ : ∃ ow, ow = (if c.own.getD a 0 = t + 1 then c.own.set a 0 else c.own) := ⟨_, rfl⟩
          rw [← how]
          repeat ((conv => whnf); first | refine Br.t ?_ | refine Br.f ?_ | refine ⟨rfl, ?_⟩)
          conv => whnf
          refine ⟨⟨endS, endB p c (t : Int) way 2 c.ths.length ow ((c.ths.set t ⟨goTo th.stk nx, th.sl⟩).map encTh)⟩, (Le.slotsE (sl' := endS) (st' := preB p c (t : Int) way (resB 2 c.ths.length ow) ++ dT (E2 c 8 2 t th.stk.length th.sl) 2 c.ths.length 2 (goTo th.stk nx) ow t (4, (a : Int), yx, yz) ++ [tabB]) (by simp [leS, endS, mkS]) rfl).trans (end_le [tabB] dd ⟨1, rfl⟩), ?_⟩
          repeat ((conv => whnf); first | refine Br.t ?_ | refine Br.f ?_ | refine ⟨rfl, ?_⟩)
          conv => whnf
          refine ⟨Nat.zero_le _, rfl, (c.ths.set t ⟨goTo th.stk nx, th.sl⟩).map encTh, rfl, ?_⟩
          refine fin (target := []) rfl (Nat.zero_le _) (by simp) ?_ rfl
          show V.agg (.i (.sl ((((c.ths.set t ⟨goTo th.stk nx, th.sl⟩).map encTh).drop 0).take (c.ths.length))) :: _) = _
          rw [List.drop_zero, List.take_of_length_le (by simp)]
          rfl
        · obtain ⟨⟨a0, a1⟩, z0, z1⟩ := may_spawn hp hmay rfl
          simp only at a0 a1 z0 z1
          obtain ⟨a, rfl⟩ : ∃ a : Nat, ya = (a : Int) := ⟨ya.toNat, by omega⟩
          obtain ⟨z, rfl⟩ : ∃ z : Nat, yz = (z : Int) := ⟨yz.toNat, by omega⟩
          rw [if_neg (by decide), if_neg (by decide), if_pos rfl, Int.toNat_natCast, Int.toNat_natCast]
          refine ⟨⟨by show (0 : Int) ≤ 5; decide, by show (5 : Int) < 10; decide⟩, ?_⟩
          repeat ((conv => whnf); first | refine Br.t ?_ | refine Br.f ?_ | refine ⟨rfl, ?_⟩)
          conv => whnf
          have cs := spawn_ok c t htl hn.2 th.sl okt.sl (goTo th.stk nx) (by rw [goTo_len]; exact hsl16) 5 yx a z (by omega) c.own
          rw [goTo_len] at cs
          have er : (E2 c 2 2 t th.stk.length (th.sl.set z (c.ths.length + 1)) ++ lift [encTh (th0 a)]).map (V.ren.renAll fun i => 6 + i) = E2 c 8 2 t th.stk.length (th.sl.set z (c.ths.length + 1)) ++ lift [encTh (th0 a)] := by
            rw [List.map_append, E2_ren, map_ren_lift]
          refine CallW.mono (deedT p c (t : Int) way cs (E2_cl c _ (by omega)) (E2_ren c 2 2 t _ th.sl _) er (E2_cl c _ (by omega)) (fun cs hcs => ?_)) ?_
          · rcases List.mem_append.1 hcs with h | h
            · exact E2_cl c _ (by omega) cs h
            · simp [lift] at h; subst h; rfl
          rintro r st' ⟨rfl, rfl⟩
          repeat ((conv => whnf); first | refine Br.t ?_ | refine Br.f ?_ | refine ⟨rfl, ?_⟩)
          conv => whnf
          have dd2 : (E2 c 8 2 t th.stk.length (th.sl.set z (c.ths.length + 1)) ++ lift [encTh (th0 a)]).map (V.dat.datAll 8 2 ((goTo th.stk nx).map encFr)) = lift ((c.ths.set t ⟨goTo th.stk nx, th.sl.set z (c.ths.length + 1)⟩ ++ [th0 a]).map encTh) := by
            rw [List.map_append, dat_lift', dat_E2 c 2 t th.stk.length _ (goTo th.stk nx) (goTo th.stk nx) (List.take_of_length_le (by rw [List.length_map, goTo_len]; exact Nat.le_refl _)), List.map_append, lift_app]
            rfl
          refine ⟨⟨endS, endB p c (t : Int) way 3 (c.ths.length + 1) c.own ((c.ths.set t ⟨goTo th.stk nx, th.sl.set z (c.ths.length + 1)⟩ ++ [th0 a]).map encTh)⟩, (Le.slotsE (sl' := endS) (st' := preB p c (t : Int) way (resB 3 (c.ths.length + 1) c.own) ++ dT (E2 c 8 2 t th.stk.length (th.sl.set z (c.ths.length + 1)) ++ lift [encTh (th0 a)]) 3 (c.ths.length + 1) 2 (goTo th.stk nx) c.own t (5, (a : Int), yx, (z : Int)) ++ [tabB]) (by simp [leS, endS, mkS]) rfl).trans (end_le [tabB] dd2 ⟨1, rfl⟩), ?_⟩
          repeat ((conv => whnf); first | refine Br.t ?_ | refine Br.f ?_ | refine ⟨rfl, ?_⟩)
          conv => whnf
          refine ⟨Nat.zero_le _, rfl, (c.ths.set t ⟨goTo th.stk nx, th.sl.set z (c.ths.length + 1)⟩ ++ [th0 a]).map encTh, rfl, ?_⟩
          refine fin (target := []) rfl (Nat.zero_le _) (by simp) ?_ rfl
          show V.agg (.i (.sl ((((c.ths.set t ⟨goTo th.stk nx, th.sl.set z (c.ths.length + 1)⟩ ++ [th0 a]).map encTh).drop 0).take ((c.ths.length + 1)))) :: _) = _
          rw [List.drop_zero, List.take_of_length_le (by simp)]
          rfl
        · rw [if_neg (by decide), if_neg (by decide), if_neg (by decide), if_neg (by decide)]
          refine ⟨⟨by simp, by simp⟩, ?_⟩
          repeat ((conv => whnf); first | refine Br.t ?_ | refine Br.f ?_ | refine ⟨rfl, ?_⟩)
          conv => whnf
          refine ⟨⟨endS, endB p c (t : Int) way 2 c.ths.length c.own ((c.ths.set t ⟨goTo th.stk nx, th.sl⟩).map encTh)⟩, (Le.slotsE (sl' := endS) (st' := preB p c (t : Int) way (resB 2 c.ths.length c.own) ++ dT (E2 c 8 2 t th.stk.length th.sl) 2 c.ths.length 2 (goTo th.stk nx) c.own t (_, ya, yx, yz) ++ [tabB]) (by simp [leS, endS, mkS]) rfl).trans (end_le [tabB] dd ⟨1, rfl⟩), ?_⟩
          repeat ((conv => whnf); first | refine Br.t ?_ | refine Br.f ?_ | refine ⟨rfl, ?_⟩)
          conv => whnf
          refine ⟨Nat.zero_le _, rfl, (c.ths.set t ⟨goTo th.stk nx, th.sl⟩).map encTh, rfl, ?_⟩
          refine fin (target := []) rfl (Nat.zero_le _) (by simp) ?_ rfl
          show V.agg (.i (.sl ((((c.ths.set t ⟨goTo th.stk nx, th.sl⟩).map encTh).drop 0).take (c.ths.length))) :: _) = _
          rw [List.drop_zero, List.take_of_length_le (by simp)]
          rfl
        · obtain ⟨a0, a1⟩ := may_call hmay rfl
          simp only at a0 a1
          obtain ⟨a, rfl⟩ : ∃ a : Nat, ya = (a : Int) := ⟨ya.toNat, by omega⟩
          rw [if_neg (by decide), if_neg (by decide), if_neg (by decide), if_pos rfl, Int.toNat_natCast]
          refine ⟨⟨by show (0 : Int) ≤ 7; decide, by show (7 : Int) < 10; decide⟩, ?_⟩
          repeat ((conv => whnf); first | refine Br.t ?_ | refine Br.f ?_ | refine ⟨rfl, ?_⟩)
          conv => whnf
          have cs := call_ok c t htl th.sl (goTo th.stk nx) (by rw [goTo_len]; exact hsl16) 7 yx yz a c.own
          rw [goTo_len] at cs
          refine CallW.mono (deedT p c (t : Int) way cs (E2_cl c _ (by omega)) (E2_ren c 2 2 t _ th.sl _) (E2_ren c 2 3 t _ th.sl _) (E2_cl c _ (by omega)) (E2_cl c _ (by omega))) ?_
          rintro r st' ⟨rfl, rfl⟩
          repeat ((conv => whnf); first | refine Br.t ?_ | refine Br.f ?_ | refine ⟨rfl, ?_⟩)
          conv => whnf
          have dd2 := dat_E2 c 3 t (th.stk.length + 1) th.sl (goTo th.stk nx ++ [(a, 0)]) (goTo th.stk nx ++ [(a, 0)]) (List.take_of_length_le (by simp [goTo_len]))
          refine ⟨⟨endS, endB p c (t : Int) way 2 c.ths.length c.own ((c.ths.set t ⟨goTo th.stk nx ++ [(a, 0)], th.sl⟩).map encTh)⟩, (Le.slotsE (sl' := endS) (st' := preB p c (t : Int) way (resB 2 c.ths.length c.own) ++ dT (E2 c 8 3 t (th.stk.length + 1) th.sl) 2 c.ths.length 3 (goTo th.stk nx ++ [(a, 0)]) c.own t (7, (a : Int), yx, yz) ++ [tabB]) (by simp [leS, endS, mkS]) rfl).trans (end_le [tabB] dd2 ⟨1, rfl⟩), ?_⟩
          repeat ((conv => whnf); first | refine Br.t ?_ | refine Br.f ?_ | refine ⟨rfl, ?_⟩)
          conv => whnf
          refine ⟨Nat.zero_le _, rfl, (c.ths.set t ⟨goTo th.stk nx ++ [(a, 0)], th.sl⟩).map encTh, rfl, ?_⟩
          refine fin (target := []) rfl (Nat.zero_le _) (by simp) ?_ rfl
          show V.agg (.i (.sl ((((c.ths.set t ⟨goTo th.stk nx ++ [(a, 0)], th.sl⟩).map encTh).drop 0).take (c.ths.length))) :: _) = _
          rw [List.drop_zero, List.take_of_length_le (by simp)]
          rfl
        · exact absurd rfl k8
        · exact absurd rfl k9
end Go.Proofs.Ytiikndppckjmhaa.Am

/- Plain laws: what steps keep of a config. -/
namespace Go.Proofs.Ytiikndppckjmhaa.Am
set_option autoImplicit false
set_option linter.unusedVariables false
set_option linter.unusedSimpArgs false
theorem nodup_le : ∀ (n : Nat) (l : List Nat), l.Nodup → (∀ x ∈ l, x < n) → l.length ≤ n
  | 0, [], _, _ => Nat.le_refl _
  | 0, x :: l, _, h => absurd (h x List.mem_cons_self) (by omega)
  | n + 1, l, hd, h => by
    by_cases hm : n ∈ l
    · have h1 := nodup_le n (l.erase n) (hd.erase n) (fun x hx => by
        have h2 := h x (List.mem_of_mem_erase hx)
        have h3 : x ≠ n := fun e => by subst e; exact (List.Nodup.not_mem_erase hd) hx
        omega)
      rw [List.length_erase_of_mem hm] at h1
      omega
    · have := nodup_le n l hd (fun x hx => by
        have h2 := h x hx
        have h3 : x ≠ n := fun e => by subst e; exact hm hx
        omega)
      omega
def Chn (fs : List (List Nd)) (l : List (Nat × Nat)) : Prop := ∀ (i : Nat) (a b : Nat × Nat), l[i]? = some a → l[i + 1]? = some b → E fs a.1 b.1
theorem Chn.conn {fs : List (List Nd)} {l : List (Nat × Nat)} (h : Chn fs l) : ∀ (d i : Nat) (a b : Nat × Nat), l[i]? = some a → l[i + d + 1]? = some b → Conn (E fs) a.1 b.1
  | 0, i, a, b, ha, hb => .one (h i a b ha hb)
  | d + 1, i, a, b, ha, hb => by
    have hl := lt_some hb
    obtain ⟨x, hx⟩ : ∃ x, l[i + 1]? = some x := ⟨_, List.getElem?_eq_getElem (by omega)⟩
    exact .step (h i a x ha hx) (h.conn d (i + 1) x b hx (by rw [show i + 1 + d + 1 = i + (d + 1) + 1 by omega]; exact hb))
theorem Chn.len {p : Pg} (hp : PgOk p) {l : List (Nat × Nat)} (h : Chn p.fs l) (hf : ∀ f ∈ l, f.1 < p.fs.length) : l.length ≤ p.fs.length := by
  have hn : (l.map Prod.fst).Nodup := by
    rw [List.nodup_iff_pairwise_ne, List.pairwise_iff_getElem]
    intro i j hi hj hij he
    simp only [List.length_map] at hi hj
    simp only [List.getElem_map] at he
    have := h.conn (j - i - 1) i l[i] l[j] (List.getElem?_eq_getElem hi) (by rw [show i + (j - i - 1) + 1 = j by omega]; exact List.getElem?_eq_getElem hj)
    rw [he] at this
    exact acyc hp.calls hp.r _ this
  have := nodup_le p.fs.length (l.map Prod.fst) hn (fun x hx => by
    simp only [List.mem_map] at hx
    obtain ⟨f, hfm, rfl⟩ := hx
    exact hf f hfm)
  simpa using this
theorem goTo_get {l : List (Nat × Nat)} {k i : Nat} {a : Nat × Nat} (h : (goTo l k)[i]? = some a) : ∃ b, l[i]? = some b ∧ b.1 = a.1 := by
  unfold goTo at h
  rw [List.getElem?_set] at h
  by_cases hi : l.length - 1 = i
  · rw [if_pos hi] at h
    split at h
    · rename_i hlt
      cases h
      obtain ⟨f, h1, h2, h3⟩ := last_get l (by omega)
      refine ⟨f, by rw [← hi]; exact h2, ?_⟩
      unfold lastF
      rw [h1]; rfl
    · cases h
  · rw [if_neg hi] at h
    exact ⟨a, h, rfl⟩
theorem goTo_chn {fs : List (List Nd)} {l : List (Nat × Nat)} {k : Nat} (h : Chn fs l) : Chn fs (goTo l k) := by
  intro i a b ha hb
  obtain ⟨a', ha', e1⟩ := goTo_get ha
  obtain ⟨b', hb', e2⟩ := goTo_get hb
  rw [← e1, ← e2]
  exact h i a' b' ha' hb'
theorem goTo_fr {fs : List (List Nd)} {l : List (Nat × Nat)} {k : Nat} (h : ∀ f ∈ l, ∃ L, fs[f.1]? = some L ∧ f.2 < L.length) {f : Nat × Nat} {L : List Nd} (hf : l.getLast? = some f) (hL : fs[f.1]? = some L) (hk : k < L.length) : ∀ f ∈ goTo l k, ∃ L, fs[f.1]? = some L ∧ f.2 < L.length := by
  intro g hg
  unfold goTo at hg
  rcases List.mem_or_eq_of_mem_set hg with h1 | rfl
  · exact h g h1
  · unfold lastF
    rw [hf]
    exact ⟨L, hL, hk⟩
theorem OkTh.mono {p : Pg} {n m : Nat} {t : Th} (h : OkTh p n t) (hm : n ≤ m) : OkTh p m t := ⟨h.h, h.fr, h.sl, fun x hx => Nat.le_trans (h.slv x hx) hm, h.ch⟩
theorem OkTh.goTo {p : Pg} {n : Nat} {t : Th} (h : OkTh p n t) {k : Nat} {f : Nat × Nat} {L : List Nd} (hf : t.stk.getLast? = some f) (hL : p.fs[f.1]? = some L) (hk : k < L.length) : OkTh p n ⟨goTo t.stk k, t.sl⟩ :=
  ⟨by show (Am.goTo t.stk k).length ≤ _; rw [goTo_len]; exact h.h, goTo_fr h.fr hf hL hk, h.sl, h.slv, goTo_chn h.ch⟩
theorem OkC.set {p : Pg} {c : Cfg} (h : OkC p c) (t : Nat) {th : Th} (ht : OkTh p c.ths.length th) {own : List Nat} (ho : own.length = 16) (hv : ∀ x ∈ own, x ≤ 8) : OkC p ⟨c.ths.set t th, own⟩ := by
  refine ⟨by simpa using h.n, fun x hx => ?_, ho, hv⟩
  show OkTh p (c.ths.set t th).length x
  rw [List.length_set]
  rcases List.mem_or_eq_of_mem_set hx with h1 | rfl
  · exact h.th x h1
  · exact ht
theorem mem_set_le {l : List Nat} {k x m : Nat} (h : ∀ y ∈ l, y ≤ m) (hx : x ≤ m) : ∀ y ∈ l.set k x, y ≤ m := by
  intro y hy
  rcases List.mem_or_eq_of_mem_set hy with h1 | rfl
  · exact h y h1
  · exact hx
theorem th0_ok {p : Pg} (hp : PgOk p) {a n : Nat} (ha : a < p.fs.length) : OkTh p n (th0 a) := by
  have hn := hp.n
  refine ⟨by show 1 ≤ _; omega, fun f hf => ?_, rfl, fun x hx => ?_, fun i x y hx hy => ?_⟩
  · simp only [th0, List.mem_singleton] at hf
    subst hf
    refine ⟨p.fs[a], List.getElem?_eq_getElem ha, ?_⟩
    exact (hp.f _ (List.getElem_mem ha)).1
  · simp [th0] at hx; omega
  · simp [th0] at hy
theorem stepC_ok {p : Pg} (hp : PgOk p) {c : Cfg} (hc : OkC p c) (who : Int) (way : Bool) : OkC p (stepC p c who way) := by
  unfold stepC
  split
  · rename_i he
    have hlive : lives c who = true := by
      unfold enab at he
      simp only [Bool.and_eq_true] at he
      exact he.1
    obtain ⟨t, th, f, L, rfl, hth, hs0, hf1, hL, hy, hLm, hym, hmay⟩ := nd_in hp hc hlive
    have okt := hc.th th (List.mem_of_getElem? hth)
    have htl := lt_some hth
    rw [thAt_nat, hth]
    simp only [Int.toNat_natCast]
    obtain ⟨y, hyy⟩ : ∃ y, y = ndAt p c (t : Int) := ⟨_, rfl⟩
    rw [← hyy] at hmay hy hym ⊢
    have hL0 := (hp.f L hLm).1
    have hown := hc.own
    have hownv := hc.ownv
    unfold doC
    split
    · refine hc.set t (th := ⟨th.stk.dropLast, th.sl⟩) ⟨?_, fun g hg => okt.fr g (List.dropLast_subset _ hg), okt.sl, okt.slv, fun i a b ha hb => ?_⟩ hown hownv
      · have := okt.h; simp; omega
      · rw [List.getElem?_dropLast] at ha hb
        split at ha
        · split at hb
          · exact okt.ch i a b ha hb
          · cases hb
        · cases ha
    · rename_i h9
      have hnx : (if y.1 = 8 ∧ way = true then y.2.2.2 else y.2.2.1).toNat < L.length := by
        split
        · rename_i h8
          have := may_alt (by omega) hmay h8.1
          omega
        · have := may_next (by omega) hmay
          omega
      obtain ⟨k, hk⟩ : ∃ k, k = (if y.1 = 8 ∧ way = true then y.2.2.2 else y.2.2.1).toNat := ⟨_, rfl⟩
      rw [← hk] at hnx ⊢
      have okg := okt.goTo hf1 hL hnx
      have hn := hc.n
      simp only
      split
      · exact hc.set t okg (by simpa using hown) (mem_set_le hownv (by omega))
      · split
        · refine hc.set t okg ?_ ?_
          · split
            · simpa using hown
            · exact hown
          · split
            · exact mem_set_le hownv (by omega)
            · exact hownv
        · split
          · rename_i h5
            obtain ⟨⟨s1, s2⟩, s3, s4⟩ := may_spawn hp hmay h5
            have h8 : c.ths.length < 8 := by
              unfold enab at he
              rw [← hyy] at he
              simp only [Bool.and_eq_true] at he
              have := he.2
              rw [if_neg (by omega), if_neg (by omega), if_pos h5] at this
              simpa using this
            refine ⟨by simp; omega, fun x hx => ?_, hown, hownv⟩
            show OkTh p (c.ths.set t _ ++ [th0 y.2.1.toNat]).length x
            rw [List.length_append, List.length_set]
            simp only [List.mem_append, List.mem_singleton] at hx
            rcases hx with hx | rfl
            · rcases List.mem_or_eq_of_mem_set hx with h1 | rfl
              · exact (hc.th x h1).mono (by simp)
              · have := okg.mono (m := c.ths.length + 1) (by omega)
                exact ⟨this.h, this.fr, by simpa using this.sl, mem_set_le this.slv (by simp), this.ch⟩
            · exact th0_ok hp (by omega)
          · split
            · rename_i h7
              obtain ⟨a0, a1⟩ := may_call hmay h7
              have hE : E p.fs f.1 y.2.1.toNat := ⟨y, by rw [List.getD_eq_getElem?_getD, hL]; exact hym, h7, by omega⟩
              have hch : Chn p.fs (goTo th.stk k ++ [(y.2.1.toNat, 0)]) := by
                intro i a b ha hb
                have hgl : (goTo th.stk k).length = th.stk.length := goTo_len _ _
                rcases Nat.lt_or_ge (i + 1) (goTo th.stk k).length with h1 | h1
                · rw [List.getElem?_append_left (by omega)] at ha
                  rw [List.getElem?_append_left h1] at hb
                  exact okg.ch i a b ha hb
                · have hi : i + 1 = (goTo th.stk k).length := by
                    have := lt_some hb; simp at this; omega
                  rw [List.getElem?_append_left (by omega)] at ha
                  rw [List.getElem?_append_right h1, hi, Nat.sub_self] at hb
                  simp at hb
                  subst hb
                  obtain ⟨a', ha', e1⟩ := goTo_get ha
                  obtain ⟨f', g1, g2, g3⟩ := last_get th.stk hs0
                  rw [hf1] at g1; cases g1
                  rw [show th.stk.length - 1 = i by omega, ha'] at g2
                  cases g2
                  rw [← e1]; exact hE
              have hfr : ∀ g ∈ goTo th.stk k ++ [(y.2.1.toNat, 0)], ∃ L, p.fs[g.1]? = some L ∧ g.2 < L.length := by
                intro g hg
                simp only [List.mem_append, List.mem_singleton] at hg
                rcases hg with hg | rfl
                · exact okg.fr g hg
                · refine ⟨p.fs[y.2.1.toNat]'(by omega), List.getElem?_eq_getElem (by omega), ?_⟩
                  exact (hp.f _ (List.getElem_mem _)).1
              refine hc.set t (th := ⟨goTo th.stk k ++ [(y.2.1.toNat, 0)], th.sl⟩) ⟨hch.len hp (fun g hg => ?_), hfr, okt.sl, okt.slv, hch⟩ hown hownv
              obtain ⟨L', h1, _⟩ := hfr g hg
              exact lt_some h1
            · exact hc.set t okg hown hownv
  · exact hc
theorem cfg0_ok {p : Pg} (hp : PgOk p) : OkC p cfg0 := by
  refine ⟨by decide, fun t ht => ?_, rfl, fun x hx => ?_⟩
  · simp only [cfg0, List.mem_singleton] at ht
    subst ht
    exact th0_ok hp hp.n.1
  · simp [cfg0] at hx; omega
end Go.Proofs.Ytiikndppckjmhaa.Am

/- Contracts: Sem's example; no two threads have one lock, and so on. -/
namespace Go.Proofs.Ytiikndppckjmhaa.Am
set_option autoImplicit false
set_option linter.unusedVariables false
set_option linter.unusedSimpArgs false
set_option maxRecDepth 10000
set_option pp.maxSteps 3000
set_option pp.proofs false
def pAw : Pg := ⟨0, 1, 0, [[(3, 0, 0, 0)]]⟩
theorem chk_pAw : chk pAw = (0, 0, 0) := by decide
theorem pAw_ok : PgOk pAw := chk_zero (by rw [chk_pAw])
theorem okPg_of' {p : Pg} (h : PgOk p) : okPg p := ⟨by have := h.n; omega, fun f hf => by have := (h.f f hf).2.1; omega⟩
def cAw : Cfg := ⟨[⟨[(0, 0)], [0, 0, 0, 0, 0, 0, 0, 0]⟩], [1, 0, 0, 0, 0, 0, 0, 0, 0, 0, 0, 0, 0, 0, 0, 0]⟩
theorem step_pAw : stepC pAw cfg0 0 false = cAw := by rfl
theorem enab_pAw : enab pAw cfg0 0 = true := by rfl
theorem enab_pAw2 : enab pAw cAw 0 = false := by rfl
theorem cAw_ok : OkC pAw cAw := by rw [← step_pAw]; exact stepC_ok pAw_ok (cfg0_ok pAw_ok) 0 false
set_option maxHeartbeats 2000000 in
theorem semawake : CallW Try.prog G0 25 [] [] (fun r st' => r = .i (.bool true) ∧ st' = []) := by
  refine call_of_bodyF 0 (Nat.le_refl _) Try.func25 rfl (fun a w => Try.call25 a w) (wpx_ok (own := own0) _ _ _ ?_)
  have c1 := start_ok pAw (okPg_of' pAw_ok)
  rw [startC, chk_pAw, if_pos rfl] at c1
  have c2 := semstep pAw pAw_ok cfg0 (cfg0_ok pAw_ok) 0 false
  rw [step_pAw] at c2
  have c3 := enabled_ok pAw pAw_ok cfg0 (cfg0_ok pAw_ok) 0
  rw [enab_pAw] at c3
  have c4 := enabled_ok pAw pAw_ok cAw cAw_ok 0
  rw [enab_pAw2] at c4
  repeat ((conv => whnf); first | refine Br.t ?_ | refine Br.f ?_ | refine ⟨rfl, ?_⟩)
  conv => whnf
  refine CallW.mono (c1.pure _ rfl rfl) ?_
  rintro r st' ⟨rfl, rfl⟩
  repeat ((conv => whnf); first | refine Br.t ?_ | refine Br.f ?_ | refine ⟨rfl, ?_⟩)
  conv => whnf
  refine CallW.mono (c2.pure _ rfl rfl) ?_
  rintro r st' ⟨rfl, rfl⟩
  repeat ((conv => whnf); first | refine Br.t ?_ | refine Br.f ?_ | refine ⟨rfl, ?_⟩)
  conv => whnf
  refine CallW.mono (c3.pure _ rfl rfl) ?_
  rintro r st' ⟨rfl, rfl⟩
  repeat ((conv => whnf); first | refine Br.t ?_ | refine Br.f ?_ | refine ⟨rfl, ?_⟩)
  conv => whnf
  refine CallW.mono (c4.pure _ rfl rfl) ?_
  rintro r st' ⟨rfl, rfl⟩
  repeat ((conv => whnf); first | refine Br.t ?_ | refine Br.f ?_ | refine ⟨rfl, ?_⟩)
  conv => whnf
  refine ⟨by decide, ?_⟩
  repeat ((conv => whnf); first | refine Br.t ?_ | refine Br.f ?_ | refine ⟨rfl, ?_⟩)
  conv => whnf
  refine ⟨by decide, ?_⟩
  repeat ((conv => whnf); first | refine Br.t ?_ | refine Br.f ?_ | refine ⟨rfl, ?_⟩)
  conv => whnf
  refine fin (target := []) rfl (Nat.zero_le _) (by simp) rfl rfl
/-- configs behind picks -/
def runC (p : Pg) (c : Cfg) (l : List (Int × Bool)) : Cfg := l.foldl (fun c x => stepC p c x.1 x.2) c
theorem runC_ok {p : Pg} (hp : PgOk p) : ∀ (l : List (Int × Bool)) {c : Cfg}, OkC p c → OkC p (runC p c l)
  | [], _, h => h
  | x :: l, _, h => runC_ok hp l (stepC_ok hp h x.1 x.2)
def encP (x : Int × Bool) : List I := [.int .i64 x.1, .bool x.2]
theorem run_snoc (p : Pg) (c : Cfg) (l : List (Int × Bool)) (i : Nat) (x : Int × Bool) (h : l[i]? = some x) : runC p c (l.take (i + 1)) = stepC p (runC p c (l.take i)) x.1 x.2 := by
  have hl := lt_some h
  have e : l.take (i + 1) = l.take i ++ [x] := by
    rw [List.take_succ_eq_append_getElem hl]
    congr 2
    exact Option.some.inj ((List.getElem?_eq_getElem hl).symm.trans h)
  rw [e, runC, List.foldl_append]
  rfl
/-- the locks of threads below a number -/
def allM (c : Cfg) : Nat → Nat
  | 0 => 0
  | t + 1 => allM c t ||| held c (t : Int)
theorem held_lt (c : Cfg) (t : Int) : held c t < 4294967296 := heldM_lt c t 16 (by decide)
theorem held_bit (c : Cfg) (t : Int) (i : Nat) : (held c t).testBit i = decide (i < 16 ∧ 0 ≤ t ∧ (c.own.getD i 0 : Int) = t + 1) := heldM_bit c t i 16
theorem allM_lt (c : Cfg) : ∀ t, allM c t < 4294967296
  | 0 => by simp [allM]
  | t + 1 => Nat.or_lt_two_pow (n := 32) (allM_lt c t) (held_lt c t)
theorem allM_bit (c : Cfg) (i : Nat) : ∀ t, (allM c t).testBit i = true → ∃ u : Nat, u < t ∧ (c.own.getD i 0 : Int) = u + 1
  | 0, h => by simp [allM] at h
  | t + 1, h => by
    rw [allM, Nat.testBit_or, Bool.or_eq_true] at h
    rcases h with h | h
    · obtain ⟨u, h1, h2⟩ := allM_bit c i t h; exact ⟨u, by omega, h2⟩
    · rw [held_bit] at h
      simp only [decide_eq_true_eq] at h
      exact ⟨t, by omega, h.2.2⟩
theorem all_apart (c : Cfg) (t : Nat) : allM c t &&& held c (t : Int) = 0 := by
  apply Nat.eq_of_testBit_eq
  intro i
  rw [Nat.testBit_and, Nat.zero_testBit]
  cases h1 : (allM c t).testBit i with
  | false => rfl
  | true =>
    obtain ⟨u, hu, e⟩ := allM_bit c i t h1
    rw [held_bit]
    simp only [Bool.true_and, decide_eq_false_iff_not]
    rintro ⟨_, _, e2⟩
    omega
theorem live_th {c : Cfg} {t : Nat} : lives c (t : Int) = true ↔ ∃ th, c.ths[t]? = some th ∧ 0 < th.stk.length := by
  unfold lives
  rw [thAt_nat]
  cases c.ths[t]? with
  | none => simp
  | some th => simp
theorem doC_ths {c : Cfg} {t u : Nat} {th : Th} {y : Nd} {way : Bool} (hu : u < c.ths.length) (hne : u ≠ t) : (doC c t th y way).ths[u]? = c.ths[u]? := by
  have h : ∀ x, (c.ths.set t x)[u]? = c.ths[u]? := fun x => List.getElem?_set_ne (fun e => hne e.symm)
  unfold doC setTh
  simp only
  (repeat' split) <;> (try exact h _)
  all_goals
    show (c.ths.set t _ ++ [_])[u]? = _
    rw [List.getElem?_append_left (by simpa using hu)]
    exact h _
theorem doC_len (c : Cfg) (t : Nat) (th : Th) (y : Nd) (way : Bool) : (doC c t th y way).ths.length = if y.1 = 5 then c.ths.length + 1 else c.ths.length := by
  unfold doC setTh
  simp only
  (repeat' split) <;> simp_all
theorem step_len {p : Pg} {c : Cfg} (who : Int) (way : Bool) : c.ths.length ≤ (stepC p c who way).ths.length := by
  unfold stepC
  split
  · split
    · rw [doC_len]; split <;> omega
    · exact Nat.le_refl _
  · exact Nat.le_refl _
/-- who ended stays so -/
theorem step_dead {p : Pg} {c : Cfg} (who : Int) (way : Bool) {t : Nat} (ht : t < c.ths.length) (hd : lives c (t : Int) = false) : lives (stepC p c who way) (t : Int) = false := by
  unfold stepC
  split
  · rename_i he
    cases hth : thAt c who with
    | none => exact hd
    | some th =>
      simp only
      have hlive : lives c who = true := by
        unfold enab at he
        simp only [Bool.and_eq_true] at he
        exact he.1
      have hw : 0 ≤ who := by
        refine Classical.byContradiction fun h => ?_
        rw [lives_none (by omega)] at hlive; cases hlive
      have hne : t ≠ who.toNat := fun e => by
        rw [e, show ((who.toNat : Nat) : Int) = who by omega, hlive] at hd
        cases hd
      unfold lives at hd ⊢
      rw [thAt_nat] at hd ⊢
      rw [doC_ths ht hne]
      exact hd
  · exact hd
def okL (l : List (Int × Bool)) : Prop := l.length ≤ 9223372036854775807
def hdS (l : List (Int × Bool)) (i : Nat) (x : List (Nat × V)) : List V := mkS 109 ([(1, .i (.sl (l.map encP))), (2, .ptr 0 0 0 0), (5, .ptr 1 0 0 0), (6, .i (.int .i64 0)), (7, .i (.int .i64 i))] ++ x)
theorem B3_cl (p : Pg) (c d : Cfg) (m : Nat) : ∀ o ∈ [pgB p, cfgB c, cfgB d], o.cl m := by
  intro o ho
  simp only [List.mem_cons, List.not_mem_nil, or_false] at ho
  rcases ho with rfl | rfl | rfl
  · exact pgB_cl p m
  · exact cfgB_cl c m
  · exact cfgB_cl d m
theorem B2_cl (p : Pg) (c : Cfg) (m : Nat) : ∀ o ∈ [pgB p, cfgB c], o.cl m := by
  intro o ho
  simp only [List.mem_cons, List.not_mem_nil, or_false] at ho
  rcases ho with rfl | rfl
  · exact pgB_cl p m
  · exact cfgB_cl c m
set_option maxHeartbeats 2000000 in
/-- the threads' turn -/
theorem holds_t (p : Pg) (hp : PgOk p) (c d : Cfg) (hc : OkC p c) (hd : OkC p d) (hdead : ∀ t : Nat, t < c.ths.length → lives c (t : Int) = false → lives d (t : Int) = false) (l : List (Int × Bool)) (i : Nat) :
    W Try.prog G0 0 (.loop (lp Try.f4 1)) (fun e s' => e = .exit 2 ∧ s' = ⟨hdS l i [(8, .ptr 2 0 0 0)], [pgB p, cfgB c, cfgB d]⟩)
      ⟨hdS l i [(8, .ptr 2 0 0 0), (9, .i (.int .u32 0)), (10, .i (.int .i64 0))], [pgB p, cfgB c, cfgB d]⟩ := by
  have hdn := hd.n.2
  have hcn := hc.n.2
  refine W.weak (loop_ok (α := Nat) (fun t => ⟨hdS l i [(8, .ptr 2 0 0 0), (9, .i (.int .u32 (allM d t : Nat))), (10, .i (.int .i64 t))], [pgB p, cfgB c, cfgB d]⟩)
    (fun t => t ≤ d.ths.length) (fun t => d.ths.length - t) 0 (Nat.zero_le _) (Le.refl _ _) (fun t ht => wpx_ok (own := own0) _ _ _ ?_))
  repeat ((conv => whnf); first | refine Br.t ?_ | refine Br.f ?_ | refine ⟨rfl, ?_⟩)
  conv => whnf
  refine Br.mk (fun g => ?_) (fun g => ?_)
  · have g : t < d.ths.length := by simpa using g
    obtain ⟨th, hth⟩ : ∃ th, d.ths[t]? = some th := ⟨_, List.getElem?_eq_getElem g⟩
    have okt := hd.th th (List.mem_of_getElem? hth)
    have hh := okt.h
    repeat ((conv => whnf); first | refine Br.t ?_ | refine Br.f ?_ | refine ⟨rfl, ?_⟩)
    conv => whnf
    refine CallW.mono ((held_ok d (t : Int) (by omega)).pure _ rfl rfl) ?_
    rintro r st' ⟨rfl, rfl⟩
    have ea := and32' (allM_lt d t) (held_lt d (t : Int))
    rw [all_apart] at ea
    repeat ((conv => whnf); first | refine Br.t ?_ | refine Br.f ?_ | refine ⟨rfl, ?_⟩)
    conv => whnf
    refine draw_ok (own := own0) [] [] [] rfl (by kernel_rfl) (Nat.zero_le _) ?_
    repeat ((conv => whnf); first | refine Br.t ?_ | refine Br.f ?_ | refine ⟨rfl, ?_⟩)
    conv => whnf
    rw [ea]
    repeat ((conv => whnf); first | refine Br.t ?_ | refine Br.f ?_ | refine ⟨rfl, ?_⟩)
    conv => whnf
    rw [encTh_get hth]
    refine ⟨⟨by omega, by simp; omega, rfl⟩, ?_⟩
    repeat ((conv => whnf); first | refine Br.t ?_ | refine Br.f ?_ | refine ⟨rfl, ?_⟩)
    conv => whnf
    refine ⟨by repeat ((conv => whnf); first | exact trivial | refine ⟨rfl, ?_⟩), trivial, ?_⟩
    conv => whnf
    refine Br.mk (fun h => by simp at h; omega) (fun _ => ?_)
    repeat ((conv => whnf); first | refine Br.t ?_ | refine Br.f ?_ | refine ⟨rfl, ?_⟩)
    conv => whnf
    refine Br.mk (fun h1 => ?_) (fun h1 => ?_)
    · have h1 : t < c.ths.length := by simpa using h1
      repeat ((conv => whnf); first | refine Br.t ?_ | refine Br.f ?_ | refine ⟨rfl, ?_⟩)
      conv => whnf
      refine CallW.mono ((lives_ok c (by omega) (t : Int)).pure _ rfl rfl) ?_
      rintro r st' ⟨rfl, rfl⟩
      obtain ⟨q, hq⟩ : ∃ q, q = lives c (t : Int) := ⟨_, rfl⟩
      rw [← hq]
      cases q with
      | true =>
        repeat ((conv => whnf); first | refine Br.t ?_ | refine Br.f ?_ | refine ⟨rfl, ?_⟩)
        conv => whnf
        refine ⟨t + 1, by omega, by omega, Le.slots ?_⟩
        have e3 := or32' (allM_lt d t) (held_lt d (t : Int))
        rw [show allM d (t + 1) = allM d t ||| held d (t : Int) from rfl, ← e3]
        simp [leS, mkS, hdS]
        exact i64_id (by omega) (by omega)
      | false =>
        repeat ((conv => whnf); first | refine Br.t ?_ | refine Br.f ?_ | refine ⟨rfl, ?_⟩)
        conv => whnf
        refine CallW.mono ((lives_ok d (by omega) (t : Int)).pure _ rfl rfl) ?_
        rintro r st' ⟨rfl, rfl⟩
        rw [hdead t h1 hq.symm]
        repeat ((conv => whnf); first | refine Br.t ?_ | refine Br.f ?_ | refine ⟨rfl, ?_⟩)
        conv => whnf
        refine ⟨t + 1, by omega, by omega, Le.slots ?_⟩
        have e3 := or32' (allM_lt d t) (held_lt d (t : Int))
        rw [show allM d (t + 1) = allM d t ||| held d (t : Int) from rfl, ← e3]
        simp [leS, mkS, hdS]
        exact i64_id (by omega) (by omega)
    · have h1 : ¬ t < c.ths.length := by simpa using h1
      repeat ((conv => whnf); first | refine Br.t ?_ | refine Br.f ?_ | refine ⟨rfl, ?_⟩)
      conv => whnf
      refine ⟨t + 1, by omega, by omega, Le.slots ?_⟩
      have e3 := or32' (allM_lt d t) (held_lt d (t : Int))
      rw [show allM d (t + 1) = allM d t ||| held d (t : Int) from rfl, ← e3]
      simp [leS, mkS, hdS]
      exact i64_id (by omega) (by omega)
  · have g : t = d.ths.length := by simp at g; omega
    subst g
    repeat ((conv => whnf); first | refine Br.t ?_ | refine Br.f ?_ | refine ⟨rfl, ?_⟩)
    conv => whnf
    exact ⟨_, Le.slots (by simp [leS, mkS, hdS]), rfl, rfl⟩
theorem step_dead' {p : Pg} {c : Cfg} (who : Int) (way : Bool) (t : Nat) (ht : t < c.ths.length) (hd : lives c (t : Int) = false) : lives (stepC p c who way) (t : Int) = false := step_dead who way ht hd
set_option maxHeartbeats 4000000 in
theorem semholds (p : Pg) (hp0 : okPg p) (l : List (Int × Bool)) (hl : okL l) : CallW Try.prog G0 4 [pgV p, .i (.sl (l.map encP))] [] (fun r st' => r = .i (.bool true) ∧ st' = []) := by
  refine call_of_bodyF 0 (Nat.le_refl _) Try.func4 rfl (fun a w => Try.call4 a w) (wpx_ok (own := own0) _ _ _ ?_)
  unfold okL at hl
  repeat ((conv => whnf); first | refine Br.t ?_ | refine Br.f ?_ | refine ⟨rfl, ?_⟩)
  conv => whnf
  refine CallW.mono (semawake.pure _ rfl rfl) ?_
  rintro r st' ⟨rfl, rfl⟩
  repeat ((conv => whnf); first | refine Br.t ?_ | refine Br.f ?_ | refine ⟨rfl, ?_⟩)
  conv => whnf
  refine CallW.mono ((small16 p hp0).pure _ rfl rfl) ?_
  rintro r st' ⟨rfl, rfl⟩
  repeat ((conv => whnf); first | refine Br.t ?_ | refine Br.f ?_ | refine ⟨rfl, ?_⟩)
  conv => whnf
  refine Br.mk (fun z => ?_) (fun z => ?_)
  · repeat ((conv => whnf); first | refine Br.t ?_ | refine Br.f ?_ | refine ⟨rfl, ?_⟩)
    conv => whnf
    refine CallW.mono (semawake.pure _ rfl rfl) ?_
    rintro r st' ⟨rfl, rfl⟩
    repeat ((conv => whnf); first | refine Br.t ?_ | refine Br.f ?_ | refine ⟨rfl, ?_⟩)
    conv => whnf
    refine fin (target := []) rfl (Nat.zero_le _) (by simp) rfl rfl
  repeat ((conv => whnf); first | refine Br.t ?_ | refine Br.f ?_ | refine ⟨rfl, ?_⟩)
  conv => whnf
  refine Br.mk (fun z2 => ?_) (fun z2 => ?_)
  · repeat ((conv => whnf); first | refine Br.t ?_ | refine Br.f ?_ | refine ⟨rfl, ?_⟩)
    conv => whnf
    refine CallW.mono (semawake.pure _ rfl rfl) ?_
    rintro r st' ⟨rfl, rfl⟩
    repeat ((conv => whnf); first | refine Br.t ?_ | refine Br.f ?_ | refine ⟨rfl, ?_⟩)
    conv => whnf
    refine fin (target := []) rfl (Nat.zero_le _) (by simp) rfl rfl
  have hll : l.length ≤ 300 := by simp at z2; omega
  repeat ((conv => whnf); first | refine Br.t ?_ | refine Br.f ?_ | refine ⟨rfl, ?_⟩)
  conv => whnf
  refine CallW.mono ((start_ok p hp0).pure _ rfl rfl) ?_
  rintro r st' ⟨rfl, rfl⟩
  repeat ((conv => whnf); first | refine Br.t ?_ | refine Br.f ?_ | refine ⟨rfl, ?_⟩)
  conv => whnf
  refine Br.mk (fun z3 => ?_) (fun z3 => ?_)
  · have h0 : ¬ (chk p).2.2 = 0 := by simpa using z3
    have es : startC p = cfgZ := by unfold startC; rw [if_neg h0]
    rw [es]
    repeat ((conv => whnf); first | refine Br.t ?_ | refine Br.f ?_ | refine ⟨rfl, ?_⟩)
    conv => whnf
    refine fin (target := []) rfl (Nat.zero_le _) (by simp) rfl rfl
  · have h0 : (chk p).2.2 = 0 := by simpa using z3
    have hp := chk_zero h0
    have es : startC p = cfg0 := by unfold startC; rw [if_pos h0]
    rw [es, h0]
    repeat ((conv => whnf); first | refine Br.t ?_ | refine Br.f ?_ | refine ⟨rfl, ?_⟩)
    conv => whnf
    refine loop_ok (α := Nat) (fun i => ⟨hdS l i [], [pgB p, cfgB (runC p cfg0 (l.take i))]⟩)
      (fun i => i ≤ l.length) (fun i => l.length - i) 0 (Nat.zero_le _) (Le.slots (by simp [leS, mkS, hdS])) (fun i hi => wpx_ok (own := own0) _ _ _ ?_)
    have hc : OkC p (runC p cfg0 (l.take i)) := runC_ok hp _ (cfg0_ok hp)
    obtain ⟨c, hcc⟩ : ∃ c, c = runC p cfg0 (l.take i) := ⟨_, rfl⟩
    rw [← hcc] at hc ⊢
    repeat ((conv => whnf); first | refine Br.t ?_ | refine Br.f ?_ | refine ⟨rfl, ?_⟩)
    conv => whnf
    refine Br.mk (fun g => ?_) (fun g => ?_)
    · have g : i < l.length := by simpa using g
      obtain ⟨x, hx⟩ : ∃ x, l[i]? = some x := ⟨_, List.getElem?_eq_getElem g⟩
      have ex : (l.map encP).getD (i : Int).toNat [] = encP x := by rw [Int.toNat_natCast]; simp [List.getD_eq_getElem?_getD, hx]
      obtain ⟨d, hdd⟩ : ∃ d, d = stepC p c x.1 x.2 := ⟨_, rfl⟩
      have hd : OkC p d := by rw [hdd]; exact stepC_ok hp hc _ _
      have cs := semstep p hp c hc x.1 x.2
      rw [← hdd] at cs
      repeat ((conv => whnf); first | refine Br.t ?_ | refine Br.f ?_ | refine ⟨rfl, ?_⟩)
      conv => whnf
      refine draw_okG (own := own0) [7, 8] [(6, 8)] [(0, 8), (1, 8), (2, 8), (3, 8), (4, 8), (5, 8)] [(cfgV d, [pgB p, cfgB c])] rfl (by kernel_rfl) (by kernel_rfl) (Nat.zero_le _) ?_
      repeat ((conv => whnf); first | refine Br.t ?_ | refine Br.f ?_ | refine ⟨rfl, ?_⟩)
      conv => whnf
      rw [ex]
      refine ⟨⟨by omega, by simp; omega, rfl⟩, ?_⟩
      repeat ((conv => whnf); first | refine Br.t ?_ | refine Br.f ?_ | refine ⟨rfl, ?_⟩)
      conv => whnf
      refine ⟨cs.pure _ rfl rfl, ?_⟩
      repeat ((conv => whnf); first | refine Br.t ?_ | refine Br.f ?_ | refine ⟨rfl, ?_⟩)
      conv => whnf
      refine ⟨by repeat ((conv => whnf); first | exact trivial | refine ⟨rfl, ?_⟩), ?_, by repeat ((conv => whnf); first | exact trivial | refine ⟨⟨_, rfl⟩, ?_⟩), ?_⟩
      · conv => whnf
        refine ⟨?_, trivial⟩
        conv => whnf
        exact cs.pure _ rfl rfl
      conv => whnf
      repeat ((conv => whnf); first | refine Br.t ?_ | refine Br.f ?_ | refine ⟨rfl, ?_⟩)
      conv => whnf
      refine W.le (s' := ⟨hdS l i [(8, .ptr 2 0 0 0), (9, .i (.int .u32 0)), (10, .i (.int .i64 0))], [pgB p, cfgB c, cfgB d]⟩) (Le.slots (by simp [leS, mkS, hdS])) (W.mono (holds_t p hp c d hc hd (fun t ht h => by rw [hdd]; exact step_dead' x.1 x.2 t ht h) l i) ?_)
      rintro e s' ⟨rfl, rfl⟩
      repeat ((conv => whnf); first | refine Br.t ?_ | refine Br.f ?_ | refine ⟨rfl, ?_⟩)
      conv => whnf
      have hlen : c.ths.length ≤ d.ths.length := by rw [hdd]; exact step_len _ _
      refine Br.mk (fun h => by simp at h; omega) (fun _ => ?_)
      repeat ((conv => whnf); first | refine Br.t ?_ | refine Br.f ?_ | refine ⟨rfl, ?_⟩)
      conv => whnf
      have hdn := hd.n.2
      refine Br.mk (fun h => by simp at h; omega) (fun _ => ?_)
      repeat ((conv => whnf); first | refine Br.t ?_ | refine Br.f ?_ | refine ⟨rfl, ?_⟩)
      conv => whnf
      refine ⟨i + 1, by omega, by omega, ?_⟩
      rw [run_snoc p cfg0 l i x hx, ← hcc, ← hdd]
      refine Le.back (fun _ => 0) (by intro id hid; rfl) (by simp) rfl (B2_cl p d _) ?_ rfl
      simp [leS, mkS, hdS, V.up]
      exact i64_id (by omega) (by omega)
    · have g : i = l.length := by simp at g; omega
      repeat ((conv => whnf); first | refine Br.t ?_ | refine Br.f ?_ | refine ⟨rfl, ?_⟩)
      conv => whnf
      refine fin (target := []) rfl (Nat.zero_le _) (by simp) rfl rfl
end Go.Proofs.Ytiikndppckjmhaa.Am

/- Contract: what a thread has grows by its own Lock alone, and shrinks by its own Unlock alone. -/
namespace Go.Proofs.Ytiikndppckjmhaa.Am
set_option autoImplicit false
set_option linter.unusedVariables false
set_option linter.unusedSimpArgs false
set_option maxRecDepth 10000
set_option pp.maxSteps 3000
set_option pp.proofs false
theorem andn0 {a b : Nat} (h : ∀ i, a.testBit i = true → b.testBit i = true) : IntKind.u32.wrap ((BitVec.ofInt IntKind.u32.bits (a : Int) &&& ~~~ BitVec.ofInt IntKind.u32.bits (b : Int)).toNat : Nat) = 0 := by
  have e : (BitVec.ofInt IntKind.u32.bits (a : Int) &&& ~~~ BitVec.ofInt IntKind.u32.bits (b : Int)) = 0#(IntKind.u32.bits) := by
    rw [BitVec.ofInt_natCast, BitVec.ofInt_natCast]
    apply BitVec.eq_of_getLsbD_eq
    intro i hi
    simp only [BitVec.getLsbD_and, BitVec.getLsbD_not, BitVec.getLsbD_ofNat, BitVec.getLsbD_zero]
    cases ha : a.testBit i with
    | false => simp
    | true => simp [h i ha]
  rw [e]; rfl
/-- what a step makes of the owners -/
theorem own_step {p : Pg} {c : Cfg} (hp : PgOk p) (hc : OkC p c) (who : Int) (way : Bool) :
    (stepC p c who way).own = c.own ∨ (∃ a, a < 16 ∧ (atN p c who).1 = 3 ∧ 0 ≤ who ∧ c.own.getD a 0 = 0 ∧ (stepC p c who way).own = c.own.set a (who.toNat + 1)) ∨
      ∃ a, a < 16 ∧ (atN p c who).1 = 4 ∧ 0 ≤ who ∧ c.own.getD a 0 = who.toNat + 1 ∧ (stepC p c who way).own = c.own.set a 0 := by
  unfold stepC
  split
  · rename_i he
    have hl : lives c who = true := by
      unfold enab at he
      simp only [Bool.and_eq_true] at he
      exact he.1
    have eN : atN p c who = ndAt p c who := by unfold atN; rw [if_pos hl]
    obtain ⟨t, th, f, L, rfl, hth, hs0, hf1, hL, hy, hLm, hym, hmay⟩ := nd_in hp hc hl
    rw [eN, thAt_nat, hth]
    unfold enab at he
    rw [hl, Bool.true_and] at he
    obtain ⟨y, hyy⟩ : ∃ y, y = ndAt p c (t : Int) := ⟨_, rfl⟩
    rw [← hyy] at hmay he ⊢
    simp only [Int.toNat_natCast]
    have hlk := hp.l
    unfold doC setTh
    simp only
    split
    · exact .inl rfl
    · split
      · rename_i h3
        rw [if_pos h3] at he
        have := may_lock hp hmay (.inl h3)
        exact .inr (.inl ⟨y.2.1.toNat, by omega, h3, by omega, by simpa using he, rfl⟩)
      · split
        · rename_i h4
          have := may_lock hp hmay (.inr h4)
          by_cases ho : c.own.getD y.2.1.toNat 0 = t + 1
          · refine .inr (.inr ⟨y.2.1.toNat, by omega, h4, by omega, ho, ?_⟩)
            show (if _ then _ else _) = _
            rw [if_pos ho]
          · refine .inl ?_
            show (if _ then _ else _) = _
            rw [if_neg ho]
        · split
          · exact .inl rfl
          · split <;> exact .inl rfl
  · exact .inl rfl
theorem len_step {p : Pg} {c : Cfg} (who : Int) (way : Bool) : (stepC p c who way).ths.length = c.ths.length ∨ (lives c who = true ∧ (atN p c who).1 = 5 ∧ (stepC p c who way).ths.length = c.ths.length + 1) := by
  unfold stepC
  split
  · rename_i he
    have hl : lives c who = true := by
      unfold enab at he
      simp only [Bool.and_eq_true] at he
      exact he.1
    split
    · rw [doC_len]
      split
      · rename_i h5
        exact .inr ⟨hl, by unfold atN; rw [if_pos hl]; exact h5, rfl⟩
      · exact .inl rfl
    · exact .inl rfl
  · exact .inl rfl
theorem grows {p : Pg} {c : Cfg} (hp : PgOk p) (hc : OkC p c) (who : Int) (way : Bool) (t : Nat) (h : ¬ ((t : Int) = who ∧ (atN p c who).1 = 3)) (i : Nat) (hb : (held (stepC p c who way) (t : Int)).testBit i = true) : (held c (t : Int)).testBit i = true := by
  rw [held_bit] at hb ⊢
  simp only [decide_eq_true_eq] at hb ⊢
  obtain ⟨b1, b2, b3⟩ := hb
  refine ⟨b1, b2, ?_⟩
  have ho := hc.own
  rcases own_step hp hc who way with e | ⟨a, h1, h2, h3, h4, e⟩ | ⟨a, h1, h2, h3, h4, e⟩
  · rw [e] at b3; exact b3
  · rw [e, List.getD_eq_getElem?_getD, List.getElem?_set] at b3
    by_cases ha : a = i
    · rw [if_pos ha, if_pos (by omega)] at b3
      simp only [Option.getD_some] at b3
      exact absurd ⟨by omega, h2⟩ h
    · rw [if_neg ha, ← List.getD_eq_getElem?_getD] at b3
      exact b3
  · rw [e, List.getD_eq_getElem?_getD, List.getElem?_set] at b3
    by_cases ha : a = i
    · rw [if_pos ha, if_pos (by omega)] at b3
      simp only [Option.getD_some] at b3
      omega
    · rw [if_neg ha, ← List.getD_eq_getElem?_getD] at b3
      exact b3
theorem shrinks {p : Pg} {c : Cfg} (hp : PgOk p) (hc : OkC p c) (who : Int) (way : Bool) (t : Nat) (h : ¬ ((t : Int) = who ∧ (atN p c who).1 = 4)) (i : Nat) (hb : (held c (t : Int)).testBit i = true) : (held (stepC p c who way) (t : Int)).testBit i = true := by
  rw [held_bit] at hb ⊢
  simp only [decide_eq_true_eq] at hb ⊢
  obtain ⟨b1, b2, b3⟩ := hb
  refine ⟨b1, b2, ?_⟩
  have ho := hc.own
  rcases own_step hp hc who way with e | ⟨a, h1, h2, h3, h4, e⟩ | ⟨a, h1, h2, h3, h4, e⟩
  · rw [e]; exact b3
  · rw [e, List.getD_eq_getElem?_getD, List.getElem?_set]
    by_cases ha : a = i
    · subst ha; rw [h4] at b3; omega
    · rw [if_neg ha, ← List.getD_eq_getElem?_getD]
      exact b3
  · rw [e, List.getD_eq_getElem?_getD, List.getElem?_set]
    by_cases ha : a = i
    · subst ha; rw [h4] at b3; exact absurd ⟨by omega, h2⟩ h
    · rw [if_neg ha, ← List.getD_eq_getElem?_getD]
      exact b3

def lkS (l : List (Int × Bool)) (i : Nat) (x : List (Nat × V)) : List V := mkS 136 ([(1, .i (.sl (l.map encP))), (2, .ptr 0 0 0 0), (5, .ptr 1 0 0 0), (7, .i (.int .i64 i))] ++ x)
def lkB (p : Pg) (c : Cfg) (y : Nd) (d : Cfg) : List Ob := [pgB p, cfgB c, ndB' y, cfgB d]
theorem lkB_cl (p : Pg) (c : Cfg) (y : Nd) (d : Cfg) (m : Nat) : ∀ o ∈ lkB p c y d, o.cl m := by
  intro o ho
  simp only [lkB, List.mem_cons, List.not_mem_nil, or_false] at ho
  rcases ho with rfl | rfl | rfl | rfl
  · exact pgB_cl p m
  · exact cfgB_cl c m
  · intro cs hcs; simp only [List.mem_singleton] at hcs; subst hcs; rfl
  · exact cfgB_cl d m
set_option maxHeartbeats 2000000 in
theorem locks_t (p : Pg) (hp : PgOk p) (c : Cfg) (hc : OkC p c) (l : List (Int × Bool)) (hll : l.length ≤ 300) (i : Nat) (hi : i < l.length) (x : Int × Bool) (ex : (l.map encP).getD (i : Int).toNat [] = encP x) :
    W Try.prog G0 0 (.loop (lp Try.f5 1)) (fun e s' => e = .exit 2 ∧ s' = ⟨lkS l i [(8, .ptr 2 0 0 0), (10, .ptr 3 0 0 0)], lkB p c (atN p c x.1) (stepC p c x.1 x.2)⟩)
      ⟨lkS l i [(8, .ptr 2 0 0 0), (10, .ptr 3 0 0 0), (11, .i (.int .i64 0))], lkB p c (atN p c x.1) (stepC p c x.1 x.2)⟩ := by
  have hgr := grows hp hc x.1 x.2
  have hsh := shrinks hp hc x.1 x.2
  have hd : OkC p (stepC p c x.1 x.2) := stepC_ok hp hc _ _
  obtain ⟨d, hdd⟩ : ∃ d, d = stepC p c x.1 x.2 := ⟨_, rfl⟩
  obtain ⟨y, hy⟩ : ∃ y, y = atN p c x.1 := ⟨_, rfl⟩
  rw [← hdd, ← hy] at hgr hsh
  rw [← hdd] at hd
  rw [← hdd, ← hy]
  have hdn := hd.n.2
  have hcn := hc.n.2
  refine W.weak (loop_ok (α := Nat) (fun t => ⟨lkS l i [(8, .ptr 2 0 0 0), (10, .ptr 3 0 0 0), (11, .i (.int .i64 t))], lkB p c y d⟩)
    (fun t => t ≤ c.ths.length) (fun t => c.ths.length - t) 0 (Nat.zero_le _) (Le.refl _ _) (fun t ht => wpx_ok (own := own0) _ _ _ ?_))
  repeat ((conv => whnf); first | refine Br.t ?_ | refine Br.f ?_ | refine ⟨rfl, ?_⟩)
  conv => whnf
  refine Br.mk (fun g => ?_) (fun g => ?_)
  · have g : t < c.ths.length := by simpa using g
    have hgr := hgr t
    have hsh := hsh t
    have h1 := held_ok c (t : Int) (by omega)
    have h2 := held_ok d (t : Int) (by omega)
    obtain ⟨u, hu⟩ : ∃ u, u = held c (t : Int) := ⟨_, rfl⟩
    obtain ⟨v, hv⟩ : ∃ v, v = held d (t : Int) := ⟨_, rfl⟩
    rw [← hu] at h1 hgr hsh
    rw [← hv] at h2 hgr hsh
    repeat ((conv => whnf); first | refine Br.t ?_ | refine Br.f ?_ | refine ⟨rfl, ?_⟩)
    conv => whnf
    refine draw_ok (own := own0) [] [] [(.i (.int .u32 (u : Nat)), lkB p c y d), (.i (.int .u32 (v : Nat)), lkB p c y d)] rfl (by kernel_rfl) (Nat.zero_le _) ?_
    repeat ((conv => whnf); first | refine Br.t ?_ | refine Br.f ?_ | refine ⟨rfl, ?_⟩)
    conv => whnf
    refine ⟨h1.pure _ rfl rfl, ?_⟩
    repeat ((conv => whnf); first | refine Br.t ?_ | refine Br.f ?_ | refine ⟨rfl, ?_⟩)
    conv => whnf
    refine ⟨h2.pure _ rfl rfl, ?_⟩
    repeat ((conv => whnf); first | refine Br.t ?_ | refine Br.f ?_ | refine ⟨rfl, ?_⟩)
    conv => whnf
    refine ⟨by repeat ((conv => whnf); first | exact trivial | refine ⟨rfl, ?_⟩), trivial, ?_⟩
    conv => whnf
    by_cases k3 : (t : Int) = x.1 ∧ y.1 = 3
    · have e4 := andn0 (hsh (by omega))
      refine Br.mk (fun a => ?_) (fun a => ?_)
      · repeat ((conv => whnf); first | refine Br.t ?_ | refine Br.f ?_ | refine ⟨rfl, ?_⟩)
        conv => whnf
        rw [ex]
        refine ⟨⟨by omega, by simp; omega, rfl⟩, ?_⟩
        repeat ((conv => whnf); first | refine Br.t ?_ | refine Br.f ?_ | refine ⟨rfl, ?_⟩)
        conv => whnf
        refine Br.mk (fun h => by simp [k3.1] at h) (fun _ => ?_)
        repeat ((conv => whnf); first | refine Br.t ?_ | refine Br.f ?_ | refine ⟨rfl, ?_⟩)
        conv => whnf
        refine Br.mk (fun h => by simp [k3.2] at h) (fun _ => ?_)
        repeat ((conv => whnf); first | refine Br.t ?_ | refine Br.f ?_ | refine ⟨rfl, ?_⟩)
        conv => whnf
        rw [e4]
        repeat ((conv => whnf); first | refine Br.t ?_ | refine Br.f ?_ | refine ⟨rfl, ?_⟩)
        conv => whnf
        refine ⟨t + 1, by omega, by omega, Le.slots ?_⟩
        simp [leS, mkS, lkS]
        exact i64_id (by omega) (by omega)
      · repeat ((conv => whnf); first | refine Br.t ?_ | refine Br.f ?_ | refine ⟨rfl, ?_⟩)
        conv => whnf
        rw [e4]
        repeat ((conv => whnf); first | refine Br.t ?_ | refine Br.f ?_ | refine ⟨rfl, ?_⟩)
        conv => whnf
        refine ⟨t + 1, by omega, by omega, Le.slots ?_⟩
        simp [leS, mkS, lkS]
        exact i64_id (by omega) (by omega)
    · have e3 := andn0 (hgr k3)
      rw [e3]
      repeat ((conv => whnf); first | refine Br.t ?_ | refine Br.f ?_ | refine ⟨rfl, ?_⟩)
      conv => whnf
      by_cases k4 : (t : Int) = x.1 ∧ y.1 = 4
      · refine Br.mk (fun a => ?_) (fun a => ?_)
        · repeat ((conv => whnf); first | refine Br.t ?_ | refine Br.f ?_ | refine ⟨rfl, ?_⟩)
          conv => whnf
          rw [ex]
          refine ⟨⟨by omega, by simp; omega, rfl⟩, ?_⟩
          repeat ((conv => whnf); first | refine Br.t ?_ | refine Br.f ?_ | refine ⟨rfl, ?_⟩)
          conv => whnf
          refine Br.mk (fun h => by simp [k4.1] at h) (fun _ => ?_)
          repeat ((conv => whnf); first | refine Br.t ?_ | refine Br.f ?_ | refine ⟨rfl, ?_⟩)
          conv => whnf
          refine Br.mk (fun h => by simp [k4.2] at h) (fun _ => ?_)
          repeat ((conv => whnf); first | refine Br.t ?_ | refine Br.f ?_ | refine ⟨rfl, ?_⟩)
          conv => whnf
          refine ⟨t + 1, by omega, by omega, Le.slots ?_⟩
          simp [leS, mkS, lkS]
          exact i64_id (by omega) (by omega)
        · repeat ((conv => whnf); first | refine Br.t ?_ | refine Br.f ?_ | refine ⟨rfl, ?_⟩)
          conv => whnf
          refine ⟨t + 1, by omega, by omega, Le.slots ?_⟩
          simp [leS, mkS, lkS]
          exact i64_id (by omega) (by omega)
      · have e4 := andn0 (hsh k4)
        rw [e4]
        repeat ((conv => whnf); first | refine Br.t ?_ | refine Br.f ?_ | refine ⟨rfl, ?_⟩)
        conv => whnf
        refine ⟨t + 1, by omega, by omega, Le.slots ?_⟩
        simp [leS, mkS, lkS]
        exact i64_id (by omega) (by omega)
  · have g : t = c.ths.length := by simp at g; omega
    subst g
    repeat ((conv => whnf); first | refine Br.t ?_ | refine Br.f ?_ | refine ⟨rfl, ?_⟩)
    conv => whnf
    exact ⟨_, Le.slots (by simp [leS, mkS, lkS]), rfl, rfl⟩
set_option maxHeartbeats 4000000 in
theorem semlocks (p : Pg) (hp0 : okPg p) (l : List (Int × Bool)) (hl : okL l) : CallW Try.prog G0 5 [pgV p, .i (.sl (l.map encP))] [] (fun r st' => r = .i (.bool true) ∧ st' = []) := by
  refine call_of_bodyF 0 (Nat.le_refl _) Try.func5 rfl (fun a w => Try.call5 a w) (wpx_ok (own := own0) _ _ _ ?_)
  unfold okL at hl
  repeat ((conv => whnf); first | refine Br.t ?_ | refine Br.f ?_ | refine ⟨rfl, ?_⟩)
  conv => whnf
  refine CallW.mono (semawake.pure _ rfl rfl) ?_
  rintro r st' ⟨rfl, rfl⟩
  repeat ((conv => whnf); first | refine Br.t ?_ | refine Br.f ?_ | refine ⟨rfl, ?_⟩)
  conv => whnf
  refine CallW.mono ((small16 p hp0).pure _ rfl rfl) ?_
  rintro r st' ⟨rfl, rfl⟩
  repeat ((conv => whnf); first | refine Br.t ?_ | refine Br.f ?_ | refine ⟨rfl, ?_⟩)
  conv => whnf
  refine Br.mk (fun z => ?_) (fun z => ?_)
  · repeat ((conv => whnf); first | refine Br.t ?_ | refine Br.f ?_ | refine ⟨rfl, ?_⟩)
    conv => whnf
    refine CallW.mono (semawake.pure _ rfl rfl) ?_
    rintro r st' ⟨rfl, rfl⟩
    repeat ((conv => whnf); first | refine Br.t ?_ | refine Br.f ?_ | refine ⟨rfl, ?_⟩)
    conv => whnf
    refine fin (target := []) rfl (Nat.zero_le _) (by simp) rfl rfl
  repeat ((conv => whnf); first | refine Br.t ?_ | refine Br.f ?_ | refine ⟨rfl, ?_⟩)
  conv => whnf
  refine Br.mk (fun z2 => ?_) (fun z2 => ?_)
  · repeat ((conv => whnf); first | refine Br.t ?_ | refine Br.f ?_ | refine ⟨rfl, ?_⟩)
    conv => whnf
    refine CallW.mono (semawake.pure _ rfl rfl) ?_
    rintro r st' ⟨rfl, rfl⟩
    repeat ((conv => whnf); first | refine Br.t ?_ | refine Br.f ?_ | refine ⟨rfl, ?_⟩)
    conv => whnf
    refine fin (target := []) rfl (Nat.zero_le _) (by simp) rfl rfl
  have hll : l.length ≤ 300 := by simp at z2; omega
  repeat ((conv => whnf); first | refine Br.t ?_ | refine Br.f ?_ | refine ⟨rfl, ?_⟩)
  conv => whnf
  refine CallW.mono ((start_ok p hp0).pure _ rfl rfl) ?_
  rintro r st' ⟨rfl, rfl⟩
  repeat ((conv => whnf); first | refine Br.t ?_ | refine Br.f ?_ | refine ⟨rfl, ?_⟩)
  conv => whnf
  refine Br.mk (fun z3 => ?_) (fun z3 => ?_)
  · have h0 : ¬ (chk p).2.2 = 0 := by simpa using z3
    have es : startC p = cfgZ := by unfold startC; rw [if_neg h0]
    rw [es]
    repeat ((conv => whnf); first | refine Br.t ?_ | refine Br.f ?_ | refine ⟨rfl, ?_⟩)
    conv => whnf
    refine fin (target := []) rfl (Nat.zero_le _) (by simp) rfl rfl
  · have h0 : (chk p).2.2 = 0 := by simpa using z3
    have hp := chk_zero h0
    have es : startC p = cfg0 := by unfold startC; rw [if_pos h0]
    rw [es, h0]
    repeat ((conv => whnf); first | refine Br.t ?_ | refine Br.f ?_ | refine ⟨rfl, ?_⟩)
    conv => whnf
    refine loop_ok (α := Nat) (fun i => ⟨lkS l i [], [pgB p, cfgB (runC p cfg0 (l.take i))]⟩)
      (fun i => i ≤ l.length) (fun i => l.length - i) 0 (Nat.zero_le _) (Le.slots (by simp [leS, mkS, lkS])) (fun i hi => wpx_ok (own := own0) _ _ _ ?_)
    have hc : OkC p (runC p cfg0 (l.take i)) := runC_ok hp _ (cfg0_ok hp)
    obtain ⟨c, hcc⟩ : ∃ c, c = runC p cfg0 (l.take i) := ⟨_, rfl⟩
    rw [← hcc] at hc ⊢
    repeat ((conv => whnf); first | refine Br.t ?_ | refine Br.f ?_ | refine ⟨rfl, ?_⟩)
    conv => whnf
    refine Br.mk (fun g => ?_) (fun g => ?_)
    · have g : i < l.length := by simpa using g
      obtain ⟨x, hx⟩ : ∃ x, l[i]? = some x := ⟨_, List.getElem?_eq_getElem g⟩
      have ex : (l.map encP).getD (i : Int).toNat [] = encP x := by rw [Int.toNat_natCast]; simp [List.getD_eq_getElem?_getD, hx]
      have ca := at_ok p hp c hc x.1
      have cs := semstep p hp c hc x.1 x.2
      have W1 := locks_t p hp c hc l hll i g x ex
      have hlen := len_step (p := p) (c := c) x.1 x.2
      have hdn := (stepC_ok hp hc x.1 x.2).n.2
      have hrun := run_snoc p cfg0 l i x hx
      rw [← hcc] at hrun
      obtain ⟨d, hdd⟩ : ∃ d, d = stepC p c x.1 x.2 := ⟨_, rfl⟩
      obtain ⟨y, hy⟩ : ∃ y, y = atN p c x.1 := ⟨_, rfl⟩
      obtain ⟨q, hq⟩ : ∃ q, q = lives c x.1 := ⟨_, rfl⟩
      rw [← hy, ← hq] at ca hlen
      rw [← hdd] at cs hlen hrun hdn
      rw [← hdd, ← hy] at W1
      repeat ((conv => whnf); first | refine Br.t ?_ | refine Br.f ?_ | refine ⟨rfl, ?_⟩)
      conv => whnf
      refine draw_okG (own := own0) [11, 12] [(7, 12), (10, 14)] [(0, 12), (1, 12), (2, 12), (3, 12), (4, 12), (5, 12), (6, 12), (8, 12), (9, 12), (10, 12)] [(.tup [ndV y, .i (.bool q)], [pgB p, cfgB c])] rfl (by kernel_rfl) (by kernel_rfl) (Nat.zero_le _) ?_
      repeat ((conv => whnf); first | refine Br.t ?_ | refine Br.f ?_ | refine ⟨rfl, ?_⟩)
      conv => whnf
      rw [ex]
      refine ⟨⟨by omega, by simp; omega, rfl⟩, ?_⟩
      repeat ((conv => whnf); first | refine Br.t ?_ | refine Br.f ?_ | refine ⟨rfl, ?_⟩)
      conv => whnf
      refine ⟨ca.pure _ rfl rfl, ?_⟩
      repeat ((conv => whnf); first | refine Br.t ?_ | refine Br.f ?_ | refine ⟨rfl, ?_⟩)
      conv => whnf
      refine ⟨by repeat ((conv => whnf); first | exact trivial | refine ⟨rfl, ?_⟩), ?_, by repeat ((conv => whnf); first | exact trivial | refine ⟨⟨_, rfl⟩, ?_⟩), ?_⟩
      · conv => whnf
        refine ⟨?_, ?_⟩
        · conv => whnf
          exact ca.pure _ rfl rfl
        repeat ((conv => whnf); first | exact trivial | refine ⟨by (conv => whnf); first | exact ⟨rfl, rfl⟩ | exact ⟨rfl, rfl, rfl⟩, ?_⟩)
      conv => whnf
      repeat ((conv => whnf); first | refine Br.t ?_ | refine Br.f ?_ | refine ⟨rfl, ?_⟩)
      conv => whnf
      refine draw_okG (own := own0) [7, 8] [(6, 8)] [(0, 8), (1, 8), (2, 8), (3, 8), (4, 8), (5, 8)] [(cfgV d, [pgB p, cfgB c, ndB' y])] rfl (by kernel_rfl) (by kernel_rfl) (Nat.zero_le _) ?_
      repeat ((conv => whnf); first | refine Br.t ?_ | refine Br.f ?_ | refine ⟨rfl, ?_⟩)
      conv => whnf
      rw [ex]
      refine ⟨⟨by omega, by simp; omega, rfl⟩, ?_⟩
      repeat ((conv => whnf); first | refine Br.t ?_ | refine Br.f ?_ | refine ⟨rfl, ?_⟩)
      conv => whnf
      refine ⟨cs.pure _ rfl rfl, ?_⟩
      repeat ((conv => whnf); first | refine Br.t ?_ | refine Br.f ?_ | refine ⟨rfl, ?_⟩)
      conv => whnf
      refine ⟨by repeat ((conv => whnf); first | exact trivial | refine ⟨rfl, ?_⟩), ?_, by repeat ((conv => whnf); first | exact trivial | refine ⟨⟨_, rfl⟩, ?_⟩), ?_⟩
      · conv => whnf
        refine ⟨?_, trivial⟩
        conv => whnf
        exact cs.pure _ rfl rfl
      conv => whnf
      repeat ((conv => whnf); first | refine Br.t ?_ | refine Br.f ?_ | refine ⟨rfl, ?_⟩)
      conv => whnf
      rcases hlen with e | ⟨e1, e2, e3⟩
      · refine Br.mk (fun h => by simp [e] at h) (fun _ => ?_)
        repeat ((conv => whnf); first | refine Br.t ?_ | refine Br.f ?_ | refine ⟨rfl, ?_⟩)
        conv => whnf
        refine W.le (s' := ⟨lkS l i [(8, .ptr 2 0 0 0), (10, .ptr 3 0 0 0), (11, .i (.int .i64 0))], lkB p c y d⟩) (Le.slots (by simp [leS, mkS, lkS])) (W.mono W1 ?_)
        rintro e s' ⟨rfl, rfl⟩
        repeat ((conv => whnf); first | refine Br.t ?_ | refine Br.f ?_ | refine ⟨rfl, ?_⟩)
        conv => whnf
        refine ⟨i + 1, by omega, by omega, ?_⟩
        rw [hrun]
        refine Le.back (fun _ => 0) (by intro id hid; rfl) (by simp) rfl (B2_cl p d _) ?_ rfl
        simp [leS, mkS, lkS, V.up]
        exact i64_id (by omega) (by omega)
      · rw [e1]
        refine Br.mk (fun h => ?_) (fun h => by first | (simp [e3] at h; done) | (simp [e3] at h; omega))
        repeat ((conv => whnf); first | refine Br.t ?_ | refine Br.f ?_ | refine ⟨rfl, ?_⟩)
        conv => whnf
        refine Br.mk (fun h => by simp [e2] at h) (fun _ => ?_)
        repeat ((conv => whnf); first | refine Br.t ?_ | refine Br.f ?_ | refine ⟨rfl, ?_⟩)
        conv => whnf
        rw [i64_id (by rw [List.length_map]; omega) (by rw [List.length_map]; omega)]
        refine Br.mk (fun h => by first | (simp [e3] at h; done) | (simp [e3] at h; omega)) (fun _ => ?_)
        repeat ((conv => whnf); first | refine Br.t ?_ | refine Br.f ?_ | refine ⟨rfl, ?_⟩)
        conv => whnf
        refine W.le (s' := ⟨lkS l i [(8, .ptr 2 0 0 0), (10, .ptr 3 0 0 0), (11, .i (.int .i64 0))], lkB p c y d⟩) (Le.slots (by simp [leS, mkS, lkS])) (W.mono W1 ?_)
        rintro e s' ⟨rfl, rfl⟩
        repeat ((conv => whnf); first | refine Br.t ?_ | refine Br.f ?_ | refine ⟨rfl, ?_⟩)
        conv => whnf
        refine ⟨i + 1, by omega, by omega, ?_⟩
        rw [hrun]
        refine Le.back (fun _ => 0) (by intro id hid; rfl) (by simp) rfl (B2_cl p d _) ?_ rfl
        simp [leS, mkS, lkS, V.up]
        exact i64_id (by omega) (by omega)
    · have g : i = l.length := by simp at g; omega
      repeat ((conv => whnf); first | refine Br.t ?_ | refine Br.f ?_ | refine ⟨rfl, ?_⟩)
      conv => whnf
      refine fin (target := []) rfl (Nat.zero_le _) (by simp) rfl rfl
end Go.Proofs.Ytiikndppckjmhaa.Am

/- Contracts: a config is the same as itself. -/
namespace Go.Proofs.Ytiikndppckjmhaa.Am
set_option autoImplicit false
set_option linter.unusedVariables false
set_option linter.unusedSimpArgs false
set_option maxRecDepth 10000
set_option pp.maxSteps 3000
set_option pp.proofs false
theorem equal_refl (L : List (Nat × Nat)) (hl : L.length ≤ 1000) : CallW Try.prog G0 87 [.i (.sl (L.map encFr)), .i (.sl (L.map encFr))] [] (fun r st' => r = .i (.bool true) ∧ st' = []) := by
  refine call_of_bodyF 0 (Nat.le_refl _) Try.func87 rfl (fun a w => Try.call87 a w) (wpx_ok (own := own0) _ _ _ ?_)
  repeat ((conv => whnf); first | refine Br.t ?_ | refine Br.f ?_ | refine ⟨rfl, ?_⟩)
  conv => whnf
  refine Br.mk (fun h => by simp at h) (fun _ => ?_)
  repeat ((conv => whnf); first | refine Br.t ?_ | refine Br.f ?_ | refine ⟨rfl, ?_⟩)
  conv => whnf
  refine loop_ok (α := Nat) (fun i => ⟨mkS 26 [(0, .i (.sl (L.map encFr))), (1, .i (.sl (L.map encFr))), (12, .i (.int .i64 L.length)), (13, .i (.int .i64 i))], []⟩)
    (fun i => i ≤ L.length) (fun i => L.length - i) 0 (Nat.zero_le _) (Le.slots (by simp [leS, mkS])) (fun i hi => wpx_ok (own := own0) _ _ _ ?_)
  repeat ((conv => whnf); first | refine Br.t ?_ | refine Br.f ?_ | refine ⟨rfl, ?_⟩)
  conv => whnf
  refine Br.mk (fun g => ?_) (fun g => ?_)
  · have g : i < L.length := by simpa using g
    obtain ⟨x, hx⟩ : ∃ x, x = L[i] := ⟨_, rfl⟩
    have ex : (L.map encFr).getD (i : Int).toNat [] = encFr x := by rw [hx]; exact getD_enc g
    repeat ((conv => whnf); first | refine Br.t ?_ | refine Br.f ?_ | refine ⟨rfl, ?_⟩)
    conv => whnf
    refine draw_ok (own := own0) [] [] [] rfl (by kernel_rfl) (Nat.zero_le _) ?_
    repeat ((conv => whnf); first | refine Br.t ?_ | refine Br.f ?_ | refine ⟨rfl, ?_⟩)
    conv => whnf
    rw [ex]
    refine ⟨⟨by omega, by simp; omega, rfl⟩, ?_⟩
    repeat ((conv => whnf); first | refine Br.t ?_ | refine Br.f ?_ | refine ⟨rfl, ?_⟩)
    conv => whnf
    rw [ex]
    refine ⟨⟨by omega, by simp; omega, rfl⟩, ?_⟩
    repeat ((conv => whnf); first | refine Br.t ?_ | refine Br.f ?_ | refine ⟨rfl, ?_⟩)
    conv => whnf
    refine ⟨by kernel_rfl, ?_⟩
    repeat ((conv => whnf); first | refine Br.t ?_ | refine Br.f ?_ | refine ⟨rfl, ?_⟩)
    conv => whnf
    refine ⟨by repeat ((conv => whnf); first | exact trivial | refine ⟨rfl, ?_⟩), trivial, ?_⟩
    conv => whnf
    refine Br.mk (fun h => by simp at h) (fun _ => ?_)
    repeat ((conv => whnf); first | refine Br.t ?_ | refine Br.f ?_ | refine ⟨rfl, ?_⟩)
    conv => whnf
    refine ⟨i + 1, by omega, by omega, Le.slots ?_⟩
    simp [leS, mkS]
    exact i64_id (by omega) (by omega)
  · repeat ((conv => whnf); first | refine Br.t ?_ | refine Br.f ?_ | refine ⟨rfl, ?_⟩)
    conv => whnf
    refine fin (target := []) rfl (Nat.zero_le _) (by simp) rfl rfl
theorem clos_refl (t : Th) (hl : t.stk.length ≤ 1000) : CallW Try.prog G0 86 [thV t, thV t] [] (fun r st' => r = .i (.bool true) ∧ st' = []) := by
  refine call_of_bodyF 0 (Nat.le_refl _) Try.func86 rfl (fun a w => Try.call86 a w) (wpx_ok (own := own0) _ _ _ ?_)
  repeat ((conv => whnf); first | refine Br.t ?_ | refine Br.f ?_ | refine ⟨rfl, ?_⟩)
  conv => whnf
  refine Br.mk (fun _ => ?_) (fun h => by simp at h)
  repeat ((conv => whnf); first | refine Br.t ?_ | refine Br.f ?_ | refine ⟨rfl, ?_⟩)
  conv => whnf
  refine CallW.mono ((equal_refl t.stk hl).pure _ rfl rfl) ?_
  rintro r st' ⟨rfl, rfl⟩
  repeat ((conv => whnf); first | refine Br.t ?_ | refine Br.f ?_ | refine ⟨rfl, ?_⟩)
  conv => whnf
  refine fin (target := []) rfl (Nat.zero_le _) (by simp) ?_ rfl
  simp
def efS (c : Cfg) (i : Nat) : List V := mkS 32 [(1, .i (.sl (c.ths.map encTh))), (2, .fn (.func 86) [] []), (15, .i (.sl (c.ths.map encTh))), (16, .i (.int .i64 c.ths.length)), (17, .i (.int .i64 i))]
theorem efunc_refl (p : Pg) (hp : PgOk p) (c : Cfg) (hc : OkC p c) : CallW Try.prog G0 85 [.i (.sl (c.ths.map encTh)), .i (.sl (c.ths.map encTh)), .fn (.func 86) [] []] [] (fun r st' => r = .i (.bool true) ∧ st' = []) := by
  refine call_of_bodyF 0 (Nat.le_refl _) Try.func85 rfl (fun a w => Try.call85 a w) (wpx_ok (own := own0) _ _ _ ?_)
  have hn := hc.n.2
  repeat ((conv => whnf); first | refine Br.t ?_ | refine Br.f ?_ | refine ⟨rfl, ?_⟩)
  conv => whnf
  refine Br.mk (fun h => by simp at h) (fun _ => ?_)
  repeat ((conv => whnf); first | refine Br.t ?_ | refine Br.f ?_ | refine ⟨rfl, ?_⟩)
  conv => whnf
  refine loop_ok (α := Nat) (fun i => ⟨efS c i, []⟩)
    (fun i => i ≤ c.ths.length) (fun i => c.ths.length - i) 0 (Nat.zero_le _) (Le.slots (by simp [leS, mkS, efS])) (fun i hi => wpx_ok (own := own0) _ _ _ ?_)
  repeat ((conv => whnf); first | refine Br.t ?_ | refine Br.f ?_ | refine ⟨rfl, ?_⟩)
  conv => whnf
  refine Br.mk (fun g => ?_) (fun g => ?_)
  · have g : i < c.ths.length := by simpa using g
    obtain ⟨t, ht⟩ : ∃ t, c.ths[i]? = some t := ⟨_, List.getElem?_eq_getElem g⟩
    have hh := (hc.th t (List.mem_of_getElem? ht)).h
    have hpn := hp.n.2
    repeat ((conv => whnf); first | refine Br.t ?_ | refine Br.f ?_ | refine ⟨rfl, ?_⟩)
    conv => whnf
    rw [encTh_get ht]
    refine ⟨⟨by omega, by simp; omega, rfl⟩, ?_⟩
    repeat ((conv => whnf); first | refine Br.t ?_ | refine Br.f ?_ | refine ⟨rfl, ?_⟩)
    conv => whnf
    rw [encTh_get ht]
    refine ⟨⟨by omega, by simp; omega, rfl⟩, ?_⟩
    repeat ((conv => whnf); first | refine Br.t ?_ | refine Br.f ?_ | refine ⟨rfl, ?_⟩)
    conv => whnf
    refine CallW.mono ((clos_refl t (by omega)).pure _ rfl rfl) ?_
    rintro r st' ⟨rfl, rfl⟩
    repeat ((conv => whnf); first | refine Br.t ?_ | refine Br.f ?_ | refine ⟨rfl, ?_⟩)
    conv => whnf
    refine ⟨i + 1, by omega, by omega, Le.back (fun _ => 0) (by intro id hid; rfl) (by simp) rfl (by simp) ?_ rfl⟩
    simp [leS, mkS, efS, V.up]
    exact ⟨rfl, i64_id (by omega) (by omega)⟩
  · repeat ((conv => whnf); first | refine Br.t ?_ | refine Br.f ?_ | refine ⟨rfl, ?_⟩)
    conv => whnf
    refine fin (target := []) rfl (Nat.zero_le _) (by simp) rfl rfl
theorem same_refl (p : Pg) (hp : PgOk p) (c : Cfg) (hc : OkC p c) : CallW Try.prog G0 45 [cfgV c, cfgV c] [] (fun r st' => r = .i (.bool true) ∧ st' = []) := by
  refine call_of_bodyF 0 (Nat.le_refl _) Try.func45 rfl (fun a w => Try.call45 a w) (wpx_ok (own := own0) _ _ _ ?_)
  repeat ((conv => whnf); first | refine Br.t ?_ | refine Br.f ?_ | refine ⟨rfl, ?_⟩)
  conv => whnf
  refine Br.mk (fun _ => ?_) (fun h => by simp at h)
  repeat ((conv => whnf); first | refine Br.t ?_ | refine Br.f ?_ | refine ⟨rfl, ?_⟩)
  conv => whnf
  refine CallW.mono ((efunc_refl p hp c hc).pure _ rfl rfl) ?_
  rintro r st' ⟨rfl, rfl⟩
  repeat ((conv => whnf); first | refine Br.t ?_ | refine Br.f ?_ | refine ⟨rfl, ?_⟩)
  conv => whnf
  refine fin (target := []) rfl (Nat.zero_le _) (by simp) ?_ rfl
  simp
end Go.Proofs.Ytiikndppckjmhaa.Am

/- Contract: which way a pick goes counts at a Branch alone. -/
namespace Go.Proofs.Ytiikndppckjmhaa.Am
set_option autoImplicit false
set_option linter.unusedVariables false
set_option linter.unusedSimpArgs false
set_option maxRecDepth 10000
set_option pp.maxSteps 3000
set_option pp.proofs false


/-- behind a node that is no Branch, or goes on at one node, both ways are alike -/
theorem way_step (p : Pg) (c : Cfg) (who : Int) (h : ¬ (lives c who = true ∧ (atN p c who).1 = 8 ∧ (atN p c who).2.2.1 ≠ (atN p c who).2.2.2)) : stepC p c who false = stepC p c who true := by
  unfold stepC
  split
  · rename_i he
    have hl : lives c who = true := by
      unfold enab at he
      simp only [Bool.and_eq_true] at he
      exact he.1
    have eN : atN p c who = ndAt p c who := by unfold atN; rw [if_pos hl]
    rw [eN] at h
    split
    · rename_i th _
      obtain ⟨y, hy⟩ : ∃ y, y = ndAt p c who := ⟨_, rfl⟩
      rw [← hy] at h ⊢
      have e : (if y.1 = 8 ∧ false = true then y.2.2.2 else y.2.2.1) = (if y.1 = 8 ∧ true = true then y.2.2.2 else y.2.2.1) := by
        rw [if_neg (by simp)]
        by_cases h8 : y.1 = 8
        · rw [if_pos ⟨h8, rfl⟩]
          exact Classical.byContradiction fun k => h ⟨hl, h8, k⟩
        · rw [if_neg fun k => h8 k.1]
      unfold doC
      rw [e]
    · rfl
  · rfl
def rm17 : Ob := .row 0 17 false []
def zeroB1 : Ob := .row 1 17 false [.nils :: (ow16 []).map .i]
def rm8 : Tmp → Option Nat := fun x => match x with | 13 => some 3 | 14 => some 4 | _ => none
def swS (l : List (Int × Bool)) (w : Nat) (i : Nat) : List V := mkS 86 [(1, .i (.sl (l.map encP))), (2, .i (.int .u8 (w : Nat))), (3, .ptr 0 0 0 0), (7, .ptr 1 0 0 0), (9, .i (.int .i64 i))]
set_option maxHeartbeats 4000000 in
theorem semway (p : Pg) (hp0 : okPg p) (l : List (Int × Bool)) (hl : okL l) (w : Nat) (hw : w < 256) : CallW Try.prog G0 8 [pgV p, .i (.sl (l.map encP)), .i (.int .u8 (w : Nat))] [] (fun r st' => r = .i (.bool true) ∧ st' = []) := by
  refine call_of_bodyF 0 (Nat.le_refl _) Try.func8 rfl (fun a w => Try.call8 a w) (wpx_ok (own := own0) _ _ _ ?_)
  unfold okL at hl
  repeat ((conv => whnf); first | refine Br.t ?_ | refine Br.f ?_ | refine ⟨rfl, ?_⟩)
  conv => whnf
  refine CallW.mono (semawake.pure _ rfl rfl) ?_
  rintro r st' ⟨rfl, rfl⟩
  repeat ((conv => whnf); first | refine Br.t ?_ | refine Br.f ?_ | refine ⟨rfl, ?_⟩)
  conv => whnf
  refine CallW.mono ((small16 p hp0).pure _ rfl rfl) ?_
  rintro r st' ⟨rfl, rfl⟩
  repeat ((conv => whnf); first | refine Br.t ?_ | refine Br.f ?_ | refine ⟨rfl, ?_⟩)
  conv => whnf
  refine Br.mk (fun z => ?_) (fun z => ?_)
  · repeat ((conv => whnf); first | refine Br.t ?_ | refine Br.f ?_ | refine ⟨rfl, ?_⟩)
    conv => whnf
    refine CallW.mono (semawake.pure _ rfl rfl) ?_
    rintro r st' ⟨rfl, rfl⟩
    repeat ((conv => whnf); first | refine Br.t ?_ | refine Br.f ?_ | refine ⟨rfl, ?_⟩)
    conv => whnf
    refine fin (target := []) rfl (Nat.zero_le _) (by simp) rfl rfl
  repeat ((conv => whnf); first | refine Br.t ?_ | refine Br.f ?_ | refine ⟨rfl, ?_⟩)
  conv => whnf
  refine Br.mk (fun z2 => ?_) (fun z2 => ?_)
  · repeat ((conv => whnf); first | refine Br.t ?_ | refine Br.f ?_ | refine ⟨rfl, ?_⟩)
    conv => whnf
    refine CallW.mono (semawake.pure _ rfl rfl) ?_
    rintro r st' ⟨rfl, rfl⟩
    repeat ((conv => whnf); first | refine Br.t ?_ | refine Br.f ?_ | refine ⟨rfl, ?_⟩)
    conv => whnf
    refine fin (target := []) rfl (Nat.zero_le _) (by simp) rfl rfl
  have hll : l.length ≤ 300 := by simp at z2; omega
  repeat ((conv => whnf); first | refine Br.t ?_ | refine Br.f ?_ | refine ⟨rfl, ?_⟩)
  conv => whnf
  refine CallW.mono ((start_ok p hp0).pure _ rfl rfl) ?_
  rintro r st' ⟨rfl, rfl⟩
  repeat ((conv => whnf); first | refine Br.t ?_ | refine Br.f ?_ | refine ⟨rfl, ?_⟩)
  conv => whnf
  refine Br.mk (fun z3 => ?_) (fun z3 => ?_)
  · have h0 : ¬ (chk p).2.2 = 0 := by simpa using z3
    have es : startC p = cfgZ := by unfold startC; rw [if_neg h0]
    rw [es]
    repeat ((conv => whnf); first | refine Br.t ?_ | refine Br.f ?_ | refine ⟨rfl, ?_⟩)
    conv => whnf
    refine fin (target := []) rfl (Nat.zero_le _) (by simp) rfl rfl
  · have h0 : (chk p).2.2 = 0 := by simpa using z3
    have hp := chk_zero h0
    have es : startC p = cfg0 := by unfold startC; rw [if_pos h0]
    rw [es, h0]
    repeat ((conv => whnf); first | refine Br.t ?_ | refine Br.f ?_ | refine ⟨rfl, ?_⟩)
    conv => whnf
    refine loop_ok (α := Nat) (fun i => ⟨swS l w i, [pgB p, cfgB (runC p cfg0 (l.take i))]⟩)
      (fun i => i ≤ l.length) (fun i => l.length - i) 0 (Nat.zero_le _) (Le.slots (by simp [leS, mkS, swS])) (fun i hi => wpx_ok (own := own0) _ _ _ ?_)
    have hc : OkC p (runC p cfg0 (l.take i)) := runC_ok hp _ (cfg0_ok hp)
    obtain ⟨c, hcc⟩ : ∃ c, c = runC p cfg0 (l.take i) := ⟨_, rfl⟩
    rw [← hcc] at hc ⊢
    repeat ((conv => whnf); first | refine Br.t ?_ | refine Br.f ?_ | refine ⟨rfl, ?_⟩)
    conv => whnf
    refine Br.mk (fun g => ?_) (fun g => ?_)
    · have g : i < l.length := by simpa using g
      obtain ⟨x, hx⟩ : ∃ x, l[i]? = some x := ⟨_, List.getElem?_eq_getElem g⟩
      have ex : (l.map encP).getD (i : Int).toNat [] = encP x := by rw [Int.toNat_natCast]; simp [List.getD_eq_getElem?_getD, hx]
      have cs := semstep p hp c hc x.1 x.2
      have hrun := run_snoc p cfg0 l i x hx
      rw [← hcc] at hrun
      obtain ⟨d, hdd⟩ : ∃ d, d = stepC p c x.1 x.2 := ⟨_, rfl⟩
      rw [← hdd] at cs hrun
      repeat ((conv => whnf); first | refine Br.t ?_ | refine Br.f ?_ | refine ⟨rfl, ?_⟩)
      conv => whnf
      refine draw_ok (own := own0) [7] [] [(cfgV d, [pgB p, cfgB c])] rfl (by kernel_rfl) (Nat.zero_le _) ?_
      repeat ((conv => whnf); first | refine Br.t ?_ | refine Br.f ?_ | refine ⟨rfl, ?_⟩)
      conv => whnf
      rw [ex]
      refine ⟨⟨by omega, by simp; omega, rfl⟩, ?_⟩
      repeat ((conv => whnf); first | refine Br.t ?_ | refine Br.f ?_ | refine ⟨rfl, ?_⟩)
      conv => whnf
      refine ⟨cs.pure _ rfl rfl, ?_⟩
      repeat ((conv => whnf); first | refine Br.t ?_ | refine Br.f ?_ | refine ⟨rfl, ?_⟩)
      conv => whnf
      refine ⟨by repeat ((conv => whnf); first | exact trivial | refine ⟨rfl, ?_⟩), trivial, ?_⟩
      conv => whnf
      repeat ((conv => whnf); first | refine Br.t ?_ | refine Br.f ?_ | refine ⟨rfl, ?_⟩)
      conv => whnf
      refine ⟨i + 1, by omega, by omega, ?_⟩
      rw [hrun]
      refine Le.slots ?_
      simp [leS, mkS, swS]
      exact i64_id (by omega) (by omega)
    · have ew : (IntKind.i64.wrap (w : Int)).tmod 8 = ((w % 8 : Nat) : Int) := by rw [i64_id (by omega) (by omega)]; rfl
      obtain ⟨t, ht⟩ : ∃ t, t = w % 8 := ⟨_, rfl⟩
      rw [← ht] at ew
      repeat ((conv => whnf); first | refine Br.t ?_ | refine Br.f ?_ | refine ⟨rfl, ?_⟩)
      conv => whnf
      rw [ew]
      refine ⟨by decide, ?_⟩
      repeat ((conv => whnf); first | refine Br.t ?_ | refine Br.f ?_ | refine ⟨rfl, ?_⟩)
      conv => whnf
      have ca := at_ok p hp c hc (t : Int)
      have hway := way_step p c (t : Int)
      have c1 := semstep p hp c hc (t : Int) false
      have c2 := semstep p hp c hc (t : Int) true
      have hd : OkC p (stepC p c (t : Int) false) := stepC_ok hp hc _ _
      obtain ⟨a, ha⟩ : ∃ a, a = stepC p c (t : Int) false := ⟨_, rfl⟩
      obtain ⟨b, hb⟩ : ∃ b, b = stepC p c (t : Int) true := ⟨_, rfl⟩
      obtain ⟨y, hy⟩ : ∃ y, y = atN p c t := ⟨_, rfl⟩
      obtain ⟨q, hq⟩ : ∃ q, q = lives c (t : Int) := ⟨_, rfl⟩
      rw [← hy, ← hq] at ca hway
      rw [← ha] at c1 hway hd
      rw [← hb] at c2 hway
      have cs := same_refl p hp a hd
      refine CallW.mono (ca.pure _ rfl rfl) ?_
      rintro r st' ⟨rfl, rfl⟩
      repeat ((conv => whnf); first | refine Br.t ?_ | refine Br.f ?_ | refine ⟨rfl, ?_⟩)
      conv => whnf
      refine W.le ((Le.room0 17).trans (Le.room0 17)) ?_
      refine draw_bx (own := own0) rm8 [10, 11, 12, 13] [([], some 0, []), ([10], some 11, []), ([11], none, [pgB p, cfgB c, ndB' y] ++ [rm17, zeroB1]), ([10, 11], some 12, []), ([10, 11, 12], some 13, []), ([10, 11, 12, 13], some 14, [])]
        [(10, 0, 1), (11, 0, 2), (11, 1, 3), (10, 2, 3), (12, 3, 4), (13, 4, 5)]
        [(0, 0), (0, 1), (0, 2), (0, 3), (1, 0), (1, 1), (1, 2), (1, 3), (2, 0), (2, 1), (2, 2), (2, 3), (3, 0), (3, 1), (3, 2), (3, 3), (4, 0), (4, 1), (4, 2), (4, 3), (5, 0), (5, 1), (5, 2), (5, 3), (6, 0), (6, 1), (6, 2), (6, 3), (7, 0), (7, 1), (7, 2), (7, 3), (8, 0), (8, 1), (8, 2), (8, 3), (9, 0), (9, 1), (9, 2), (9, 3)] 5
        [(cfgV a, [pgB p, cfgB c, ndB' y, rm17, rm17]), (cfgV b, [pgB p, cfgB c, ndB' y, rm17, rm17])] rfl (by kernel_rfl) (by kernel_rfl) (Nat.zero_le _) ?_
      repeat ((conv => whnf); first | refine Br.t ?_ | refine Br.f ?_ | refine ⟨rfl, ?_⟩)
      conv => whnf
      refine ⟨c1.pure _ rfl rfl, ?_⟩
      repeat ((conv => whnf); first | refine Br.t ?_ | refine Br.f ?_ | refine ⟨rfl, ?_⟩)
      conv => whnf
      refine ⟨c2.pure _ rfl rfl, ?_⟩
      repeat ((conv => whnf); first | refine Br.t ?_ | refine Br.f ?_ | refine ⟨rfl, ?_⟩)
      conv => whnf
      refine ⟨by repeat ((conv => whnf); first | exact trivial | refine ⟨by (conv => whnf); first | exact ⟨rfl, rfl⟩ | exact ⟨rfl, rfl, rfl⟩, ?_⟩), ?_, ?_⟩
      · repeat ((conv => whnf); first | exact trivial | refine ⟨by (conv => whnf); first | exact ⟨rfl, rfl⟩ | exact ⟨rfl, rfl, rfl⟩ | exact c1.pure _ rfl rfl | exact c2.pure _ rfl rfl, ?_⟩)
      conv => whnf
      by_cases hh : q = true ∧ y.1 = 8 ∧ y.2.2.1 ≠ y.2.2.2
      · rw [hh.1]
        repeat ((conv => whnf); first | refine Br.t ?_ | refine Br.f ?_ | refine ⟨rfl, ?_⟩)
        conv => whnf
        refine Br.mk (fun _ => ?_) (fun h => by simp [hh.2.1] at h)
        repeat ((conv => whnf); first | refine Br.t ?_ | refine Br.f ?_ | refine ⟨rfl, ?_⟩)
        conv => whnf
        refine Br.mk (fun _ => ?_) (fun h => by simp at h; exact absurd h hh.2.2)
        repeat ((conv => whnf); first | refine Br.t ?_ | refine Br.f ?_ | refine ⟨rfl, ?_⟩)
        conv => whnf
        refine fin (target := []) rfl (Nat.zero_le _) (by simp) rfl rfl
      · have e := hway hh
        rw [← e]
        cases q with
        | false =>
          repeat ((conv => whnf); first | refine Br.t ?_ | refine Br.f ?_ | refine ⟨rfl, ?_⟩)
          conv => whnf
          refine CallW.mono (cs.pure _ rfl rfl) ?_
          rintro r st' ⟨rfl, rfl⟩
          repeat ((conv => whnf); first | refine Br.t ?_ | refine Br.f ?_ | refine ⟨rfl, ?_⟩)
          conv => whnf
          refine fin (target := []) rfl (Nat.zero_le _) (by simp) rfl rfl
        | true =>
          repeat ((conv => whnf); first | refine Br.t ?_ | refine Br.f ?_ | refine ⟨rfl, ?_⟩)
          conv => whnf
          refine Br.mk (fun h8 => ?_) (fun h8 => ?_)
          · repeat ((conv => whnf); first | refine Br.t ?_ | refine Br.f ?_ | refine ⟨rfl, ?_⟩)
            conv => whnf
            refine Br.mk (fun h => ?_) (fun h => ?_)
            · exact absurd ⟨rfl, by simpa using h8, by simpa using h⟩ hh
            · repeat ((conv => whnf); first | refine Br.t ?_ | refine Br.f ?_ | refine ⟨rfl, ?_⟩)
              conv => whnf
              refine CallW.mono (cs.pure _ rfl rfl) ?_
              rintro r st' ⟨rfl, rfl⟩
              repeat ((conv => whnf); first | refine Br.t ?_ | refine Br.f ?_ | refine ⟨rfl, ?_⟩)
              conv => whnf
              refine fin (target := []) rfl (Nat.zero_le _) (by simp) rfl rfl
          · repeat ((conv => whnf); first | refine Br.t ?_ | refine Br.f ?_ | refine ⟨rfl, ?_⟩)
            conv => whnf
            refine CallW.mono (cs.pure _ rfl rfl) ?_
            rintro r st' ⟨rfl, rfl⟩
            repeat ((conv => whnf); first | refine Br.t ?_ | refine Br.f ?_ | refine ⟨rfl, ?_⟩)
            conv => whnf
            refine fin (target := []) rfl (Nat.zero_le _) (by simp) rfl rfl
end Go.Proofs.Ytiikndppckjmhaa.Am

/- Contracts: who stands at an access, who races, who does first. -/
namespace Go.Proofs.Ytiikndppckjmhaa.Am
set_option autoImplicit false
set_option linter.unusedVariables false
set_option linter.unusedSimpArgs false
set_option maxRecDepth 10000
set_option pp.maxSteps 3000
set_option pp.proofs false
theorem accessN (n : Nd) : CallW Try.prog G0 88 [ndV n] [] (fun r st' => r = .tup [.i (.int .i64 n.2.1), .i (.bool (decide (n.1 = 2))), .i (.bool (decide (n.1 = 1) || decide (n.1 = 2)))] ∧ st' = []) := by
  refine call_of_bodyF 0 (Nat.le_refl _) Try.func88 rfl (fun a w => Try.call88 a w) (wpx_ok (own := own0) _ _ _ ?_)
  repeat ((conv => whnf); first | refine Br.t ?_ | refine Br.f ?_ | refine ⟨rfl, ?_⟩)
  conv => whnf
  refine draw_ok (own := own0) [] [] [] rfl (by kernel_rfl) (Nat.zero_le _) ?_
  repeat ((conv => whnf); first | refine Br.t ?_ | refine Br.f ?_ | refine ⟨rfl, ?_⟩)
  conv => whnf
  refine Br.mk (fun h => ?_) (fun h => ?_)
  · repeat ((conv => whnf); first | refine Br.t ?_ | refine Br.f ?_ | refine ⟨rfl, ?_⟩)
    conv => whnf
    refine ⟨by repeat ((conv => whnf); first | exact trivial | refine ⟨rfl, ?_⟩), trivial, ?_⟩
    conv => whnf
    refine fin (target := []) rfl (Nat.zero_le _) (by simp) ?_ rfl
    simp at h
    simp [h]
  · repeat ((conv => whnf); first | refine Br.t ?_ | refine Br.f ?_ | refine ⟨rfl, ?_⟩)
    conv => whnf
    refine ⟨by repeat ((conv => whnf); first | exact trivial | refine ⟨rfl, ?_⟩), trivial, ?_⟩
    conv => whnf
    refine fin (target := []) rfl (Nat.zero_le _) (by simp) ?_ rfl
    simp at h
    simp [h]
    rfl
abbrev Tc := Nat × Int × Bool
def encT (x : Tc) : List I := [.int .i64 (x.1 : Nat), .int .i64 x.2.1, .bool x.2.2]
def tcV (x : Tc) : V := .agg ((encT x).map .i)
def tcB (x : Tc) : Ob := .row 0 3 false [(encT x).map .i]
def isAcc (p : Pg) (c : Cfg) (t : Nat) : Bool := lives c (t : Int) && (decide ((atN p c t).1 = 1) || decide ((atN p c t).1 = 2))
def touchL (p : Pg) (c : Cfg) : Nat → List Tc
  | 0 => []
  | t + 1 => touchL p c t ++ if isAcc p c t = true then [(t, (atN p c t).2.1, decide ((atN p c t).1 = 2))] else []
def touches (p : Pg) (c : Cfg) : List Tc := touchL p c c.ths.length
theorem touchL_len (p : Pg) (c : Cfg) : ∀ t, (touchL p c t).length ≤ t
  | 0 => Nat.le_refl _
  | t + 1 => by
    have := touchL_len p c t
    rw [touchL, List.length_append]
    split
    · simp; omega
    · simp; omega
def tcR (L : List Tc) : Ob := .row 1 3 false (lift (L.map encT))
theorem tcR_cl (p : Pg) (c : Cfg) (L : List Tc) (m : Nat) : ∀ o ∈ [pgB p, cfgB c, tcR L], o.cl m := by
  intro o ho
  simp only [List.mem_cons, List.not_mem_nil, or_false] at ho
  rcases ho with rfl | rfl | rfl
  · exact pgB_cl p m
  · exact cfgB_cl c m
  · exact row_cl 1 3 (L.map encT) m _ (by simp [tcR])
def tcS (c : Cfg) (L : List Tc) (t : Nat) : List V := mkS 44 [(2, .ptr 0 0 0 0), (3, .ptr 1 0 0 0), (5, .ref 2 1 0 L.length), (14, .i (.int .i64 c.ths.length)), (15, .i (.int .i64 t))]
set_option maxHeartbeats 1000000 in
theorem touches_ok (p : Pg) (hp : PgOk p) (c : Cfg) (hc : OkC p c) : CallW Try.prog G0 47 [pgV p, cfgV c] [] (fun r st' => r = .i (.sl ((touches p c).map encT)) ∧ st' = []) := by
  refine call_of_bodyF 0 (Nat.le_refl _) Try.func47 rfl (fun a w => Try.call47 a w) (wpx_ok (own := own0) _ _ _ ?_)
  have hn := hc.n.2
  repeat ((conv => whnf); first | refine Br.t ?_ | refine Br.f ?_ | refine ⟨rfl, ?_⟩)
  conv => whnf
  refine loop_ok (α := Nat) (fun t => ⟨tcS c (touchL p c t) t, [pgB p, cfgB c, tcR (touchL p c t)]⟩)
    (fun t => t ≤ c.ths.length) (fun t => c.ths.length - t) 0 (Nat.zero_le _) ((Le.nil (n := 0) 5 3 rfl).trans (Le.slots (by simp [leS, mkS, tcS, touchL]))) (fun t ht => wpx_ok (own := own0) _ _ _ ?_)
  have hL := touchL_len p c t
  repeat ((conv => whnf); first | refine Br.t ?_ | refine Br.f ?_ | refine ⟨rfl, ?_⟩)
  conv => whnf
  refine Br.mk (fun g => ?_) (fun g => ?_)
  · have g : t < c.ths.length := by simpa using g
    have ca := at_ok p hp c hc (t : Int)
    obtain ⟨y, hy⟩ : ∃ y, y = atN p c t := ⟨_, rfl⟩
    obtain ⟨q, hq⟩ : ∃ q, q = lives c (t : Int) := ⟨_, rfl⟩
    have eT : touchL p c (t + 1) = touchL p c t ++ if (q && (decide (y.1 = 1) || decide (y.1 = 2))) = true then [(t, y.2.1, decide (y.1 = 2))] else [] := by rw [touchL, isAcc, hy, hq]
    rw [← hy, ← hq] at ca
    have cx := accessN y
    obtain ⟨a, ha⟩ : ∃ a, a = (decide (y.1 = 1) || decide (y.1 = 2)) := ⟨_, rfl⟩
    rw [← ha] at cx eT
    repeat ((conv => whnf); first | refine Br.t ?_ | refine Br.f ?_ | refine ⟨rfl, ?_⟩)
    conv => whnf
    refine CallW.mono (ca.pure _ rfl rfl) ?_
    rintro r st' ⟨rfl, rfl⟩
    repeat ((conv => whnf); first | refine Br.t ?_ | refine Br.f ?_ | refine ⟨rfl, ?_⟩)
    conv => whnf
    refine CallW.mono (cx.pure _ rfl rfl) ?_
    rintro r st' ⟨rfl, rfl⟩
    cases q with
    | false =>
      rw [Bool.false_and, if_neg (by simp), List.append_nil] at eT
      repeat ((conv => whnf); first | refine Br.t ?_ | refine Br.f ?_ | refine ⟨rfl, ?_⟩)
      conv => whnf
      refine ⟨t + 1, by omega, by omega, Le.back (fun _ => 0) (by intro id hid; rfl) (by simp) rfl (tcR_cl p c _ _) ?_ ?_⟩
      · rw [eT]
        simp [leS, mkS, tcS, V.up]
        exact i64_id (by omega) (by omega)
      · rw [eT]
        simp only [upSt, Ob.up, map_up_lift, tcR]
        rfl
    | true =>
      cases a with
      | false =>
        rw [Bool.true_and, if_neg (by simp), List.append_nil] at eT
        repeat ((conv => whnf); first | refine Br.t ?_ | refine Br.f ?_ | refine ⟨rfl, ?_⟩)
        conv => whnf
        refine ⟨t + 1, by omega, by omega, Le.back (fun _ => 0) (by intro id hid; rfl) (by simp) rfl (tcR_cl p c _ _) ?_ ?_⟩
        · rw [eT]
          simp [leS, mkS, tcS, V.up]
          exact i64_id (by omega) (by omega)
        · rw [eT]
          simp only [upSt, Ob.up, map_up_lift, tcR]
          rfl
      | true =>
        rw [Bool.true_and, if_pos rfl] at eT
        repeat ((conv => whnf); first | refine Br.t ?_ | refine Br.f ?_ | refine ⟨rfl, ?_⟩)
        conv => whnf
        refine ⟨⟨by intro cs hcs; simp at hcs; subst hcs; rfl, by simp [lift], by show ((touchL p c t).length + 1) * 24 ≤ _; omega, len_mx (by simp [lift]; omega)⟩, ?_⟩
        repeat ((conv => whnf); first | refine Br.t ?_ | refine Br.f ?_ | refine ⟨rfl, ?_⟩)
        conv => whnf
        refine ⟨t + 1, by omega, by omega, Le.back (fun id => if id = 2 then 1 else 0) (by intro id hid; simp at hid) (by simp) rfl (tcR_cl p c _ _) ?_ ?_⟩
        · rw [eT]
          simp [leS, mkS, tcS, V.up, lift]
          exact i64_id (by omega) (by omega)
        · rw [eT]
          simp only [upSt, Ob.up, map_up_lift, List.map_append, lift_app, tcR, List.cons_append, List.nil_append]
          rfl
  · have g : t = c.ths.length := by simp at g; omega
    subst g
    repeat ((conv => whnf); first | refine Br.t ?_ | refine Br.f ?_ | refine ⟨rfl, ?_⟩)
    conv => whnf
    refine ⟨Nat.zero_le _, rfl, (touches p c).map encT, rfl, ?_⟩
    refine fin (target := []) rfl (Nat.zero_le _) (by simp) ?_ rfl
    simp [touches, List.take_of_length_le]
def agB (x y : Tc) : Bool := decide (x.1 ≠ y.1) && (decide (x.2.1 = y.2.1) && (x.2.2 || y.2.2))
theorem against_ok (x y : Tc) : CallW Try.prog G0 84 [tcV x, tcV y] [] (fun r st' => r = .i (.bool (agB x y)) ∧ st' = []) := by
  refine call_of_bodyF 0 (Nat.le_refl _) Try.func84 rfl (fun a w => Try.call84 a w) (wpx_ok (own := own0) _ _ _ ?_)
  obtain ⟨x1, x2, x3⟩ := x
  obtain ⟨y1, y2, y3⟩ := y
  repeat ((conv => whnf); first | refine Br.t ?_ | refine Br.f ?_ | refine ⟨rfl, ?_⟩)
  conv => whnf
  refine Br.mk (fun h => ?_) (fun h => ?_)
  · have u1 : x1 ≠ y1 := by simp at h; omega
    repeat ((conv => whnf); first | refine Br.t ?_ | refine Br.f ?_ | refine ⟨rfl, ?_⟩)
    conv => whnf
    refine Br.mk (fun h2 => ?_) (fun h2 => ?_)
    · have u2 : x2 = y2 := by simpa using h2
      cases x3 with
      | true =>
        repeat ((conv => whnf); first | refine Br.t ?_ | refine Br.f ?_ | refine ⟨rfl, ?_⟩)
        conv => whnf
        refine fin (target := []) rfl (Nat.zero_le _) (by simp) ?_ rfl
        simp [agB, u1, u2]
      | false =>
        repeat ((conv => whnf); first | refine Br.t ?_ | refine Br.f ?_ | refine ⟨rfl, ?_⟩)
        conv => whnf
        refine fin (target := []) rfl (Nat.zero_le _) (by simp) ?_ rfl
        simp [agB, u1, u2]
    · have u2 : x2 ≠ y2 := by simpa using h2
      repeat ((conv => whnf); first | refine Br.t ?_ | refine Br.f ?_ | refine ⟨rfl, ?_⟩)
      conv => whnf
      refine fin (target := []) rfl (Nat.zero_le _) (by simp) ?_ rfl
      simp [agB, u1, u2]
  · have u1 : x1 = y1 := by simp at h; omega
    repeat ((conv => whnf); first | refine Br.t ?_ | refine Br.f ?_ | refine ⟨rfl, ?_⟩)
    conv => whnf
    refine fin (target := []) rfl (Nat.zero_le _) (by simp) ?_ rfl
    simp [agB, u1]
def firstR : List Tc → Option (Tc × Tc)
  | [] => none
  | x :: r => match r.find? (fun y => agB x y) with | some y => some (x, y) | none => firstR r
def firstT (o : Option (Tc × Tc)) : List V := match o with
  | some (x, y) => [.i (.int .i64 (x.1 : Nat)), .i (.int .i64 (y.1 : Nat)), .i (.int .i64 x.2.1), .i (.bool true)]
  | none => [.i (.int .i64 0), .i (.int .i64 0), .i (.int .i64 0), .i (.bool false)]
def fsS (L : List Tc) (i : Nat) (x : List (Nat × V)) : List V := mkS 43 ([(2, .ptr 0 0 0 0), (3, .ptr 1 0 0 0), (8, .i (.sl (L.map encT))), (16, .i (.sl (L.map encT))), (17, .i (.int .i64 L.length)), (18, .i (.int .i64 i))] ++ x)
theorem fsB_cl (p : Pg) (c : Cfg) (x : Tc) (m : Nat) : ∀ o ∈ [pgB p, cfgB c, tcB x], o.cl m := by
  intro o ho
  simp only [List.mem_cons, List.not_mem_nil, or_false] at ho
  rcases ho with rfl | rfl | rfl
  · exact pgB_cl p m
  · exact cfgB_cl c m
  · intro cs hcs; simp only [List.mem_singleton] at hcs; subst hcs; rfl
set_option maxHeartbeats 1000000 in
theorem first_in (p : Pg) (c : Cfg) (L : List Tc) (i : Nat) (x : Tc) (r : List Tc) (hr : r.length ≤ 8) (Q : Exit → S → Prop)
    (hyes : ∀ y, r.find? (fun y => agB x y) = some y → Q .ret ⟨mkS 43 [(4, .i (.int .i64 (x.1 : Nat))), (5, .i (.int .i64 (y.1 : Nat))), (6, .i (.int .i64 x.2.1)), (7, .i (.bool true))], [pgB p, cfgB c]⟩)
    (hno : r.find? (fun y => agB x y) = none → Q (.exit 2) ⟨fsS L i [], [pgB p, cfgB c]⟩) :
    W Try.prog G0 0 (.loop (lp Try.f44 1)) Q ⟨fsS L i [(10, .ptr 2 0 0 0), (26, .i (.sl (r.map encT))), (27, .i (.int .i64 r.length)), (28, .i (.int .i64 0))], [pgB p, cfgB c, tcB x]⟩ := by
  refine W.weak (loop_ok (α := Nat) (fun j => ⟨fsS L i [(10, .ptr 2 0 0 0), (26, .i (.sl (r.map encT))), (27, .i (.int .i64 r.length)), (28, .i (.int .i64 j))], [pgB p, cfgB c, tcB x]⟩)
    (fun j => j ≤ r.length ∧ (r.drop j).find? (fun y => agB x y) = r.find? fun y => agB x y) (fun j => r.length - j) 0 ⟨Nat.zero_le _, rfl⟩ (Le.refl _ _) (fun j hj => wpx_ok (own := own0) _ _ _ ?_))
  obtain ⟨h1, h2⟩ := hj
  repeat ((conv => whnf); first | refine Br.t ?_ | refine Br.f ?_ | refine ⟨rfl, ?_⟩)
  conv => whnf
  refine Br.mk (fun g => ?_) (fun g => ?_)
  · have g : j < r.length := by simpa using g
    obtain ⟨y, hy⟩ : ∃ y, y = r[j] := ⟨_, rfl⟩
    have ey : (r.map encT).getD (j : Int).toNat [] = encT y := by rw [hy]; exact getD_enc g
    have ed : r.drop j = y :: r.drop (j + 1) := by rw [hy]; exact List.drop_eq_getElem_cons g
    rw [ed, List.find?_cons] at h2
    have cg := against_ok x y
    obtain ⟨q, hq⟩ : ∃ q, q = agB x y := ⟨_, rfl⟩
    rw [← hq] at cg h2
    repeat ((conv => whnf); first | refine Br.t ?_ | refine Br.f ?_ | refine ⟨rfl, ?_⟩)
    conv => whnf
    rw [ey]
    refine ⟨⟨by omega, by simp; omega, rfl⟩, ?_⟩
    repeat ((conv => whnf); first | refine Br.t ?_ | refine Br.f ?_ | refine ⟨rfl, ?_⟩)
    conv => whnf
    refine CallW.mono (cg.pure _ rfl rfl) ?_
    rintro r0 st' ⟨rfl, rfl⟩
    cases q with
    | true =>
      simp only at h2
      repeat ((conv => whnf); first | refine Br.t ?_ | refine Br.f ?_ | refine ⟨rfl, ?_⟩)
      conv => whnf
      refine draw_ok (own := own0) [] [] [] rfl (by kernel_rfl) (Nat.zero_le _) ?_
      repeat ((conv => whnf); first | refine Br.t ?_ | refine Br.f ?_ | refine ⟨rfl, ?_⟩)
      conv => whnf
      refine ⟨by repeat ((conv => whnf); first | exact trivial | refine ⟨rfl, ?_⟩), trivial, ?_⟩
      conv => whnf
      repeat ((conv => whnf); first | refine Br.t ?_ | refine Br.f ?_ | refine ⟨rfl, ?_⟩)
      conv => whnf
      refine ⟨_, Le.back (s := ⟨mkS 43 [(4, .i (.int .i64 (x.1 : Nat))), (5, .i (.int .i64 (y.1 : Nat))), (6, .i (.int .i64 x.2.1)), (7, .i (.bool true))], [pgB p, cfgB c]⟩) (fun _ => 0) (by intro id hid; rfl) (by simp) rfl (B2_cl p c _) ?_ rfl, hyes y h2.symm⟩
      simp [leS, mkS, fsS, V.up]
    | false =>
      simp only at h2
      repeat ((conv => whnf); first | refine Br.t ?_ | refine Br.f ?_ | refine ⟨rfl, ?_⟩)
      conv => whnf
      refine ⟨j + 1, ⟨by omega, h2⟩, by omega, Le.back (fun _ => 0) (by intro id hid; rfl) (by simp) rfl (fsB_cl p c x _) ?_ rfl⟩
      simp [leS, mkS, fsS, V.up]
      exact i64_id (by omega) (by omega)
  · have g : j = r.length := by simp at g; omega
    subst g
    rw [List.drop_length, List.find?_nil] at h2
    repeat ((conv => whnf); first | refine Br.t ?_ | refine Br.f ?_ | refine ⟨rfl, ?_⟩)
    conv => whnf
    refine ⟨_, Le.back (s := ⟨fsS L i [], [pgB p, cfgB c]⟩) (fun _ => 0) (by intro id hid; rfl) (by simp) rfl (B2_cl p c _) ?_ rfl, hno h2.symm⟩
    simp [leS, mkS, fsS, V.up]
set_option maxHeartbeats 1000000 in
theorem first_ok (p : Pg) (hp : PgOk p) (c : Cfg) (hc : OkC p c) : CallW Try.prog G0 44 [pgV p, cfgV c] [] (fun r st' => r = .tup (firstT (firstR (touches p c))) ∧ st' = []) := by
  refine call_of_bodyF 0 (Nat.le_refl _) Try.func44 rfl (fun a w => Try.call44 a w) (wpx_ok (own := own0) _ _ _ ?_)
  have ct := touches_ok p hp c hc
  have hlen : (touches p c).length ≤ 8 := Nat.le_trans (touchL_len p c _) hc.n.2
  obtain ⟨L, hL⟩ : ∃ L, L = touches p c := ⟨_, rfl⟩
  rw [← hL] at ct hlen ⊢
  repeat ((conv => whnf); first | refine Br.t ?_ | refine Br.f ?_ | refine ⟨rfl, ?_⟩)
  conv => whnf
  refine CallW.mono (ct.pure _ rfl rfl) ?_
  rintro r st' ⟨rfl, rfl⟩
  repeat ((conv => whnf); first | refine Br.t ?_ | refine Br.f ?_ | refine ⟨rfl, ?_⟩)
  conv => whnf
  refine loop_ok (α := Nat) (fun i => ⟨fsS L i [], [pgB p, cfgB c]⟩)
    (fun i => i ≤ L.length ∧ firstR (L.drop i) = firstR L) (fun i => L.length - i) 0 ⟨Nat.zero_le _, rfl⟩ (Le.slots (by simp [leS, mkS, fsS])) (fun i hi => wpx_ok (own := own0) _ _ _ ?_)
  obtain ⟨h1, h2⟩ := hi
  repeat ((conv => whnf); first | refine Br.t ?_ | refine Br.f ?_ | refine ⟨rfl, ?_⟩)
  conv => whnf
  refine Br.mk (fun g => ?_) (fun g => ?_)
  · have g : i < L.length := by simpa using g
    obtain ⟨x, hx⟩ : ∃ x, x = L[i] := ⟨_, rfl⟩
    have ex : (L.map encT).getD (i : Int).toNat [] = encT x := by rw [hx]; exact getD_enc g
    have ed : L.drop i = x :: L.drop (i + 1) := by rw [hx]; exact List.drop_eq_getElem_cons g
    rw [ed, firstR] at h2
    repeat ((conv => whnf); first | refine Br.t ?_ | refine Br.f ?_ | refine ⟨rfl, ?_⟩)
    conv => whnf
    rw [ex]
    refine ⟨⟨by omega, by simp; omega, rfl⟩, ?_⟩
    repeat ((conv => whnf); first | refine Br.t ?_ | refine Br.f ?_ | refine ⟨rfl, ?_⟩)
    conv => whnf
    rw [i64_id (by omega) (by omega)]
    have es : List.take ((((L.map encT).length : Nat) : Int).toNat - ((i : Int) + 1).toNat) (List.drop ((i : Int) + 1).toNat (L.map encT)) = (L.drop (i + 1)).map encT := by
      rw [show ((i : Int) + 1).toNat = i + 1 by omega, List.map_drop, List.take_of_length_le (by simp)]
    rw [es]
    refine ⟨⟨by omega, by simp; omega, Int.le_refl _, by intro cs hcs; simp only [List.mem_map] at hcs; obtain ⟨y, _, rfl⟩ := hcs; rfl⟩, ?_⟩
    repeat ((conv => whnf); first | refine Br.t ?_ | refine Br.f ?_ | refine ⟨rfl, ?_⟩)
    conv => whnf
    refine W.le (Le.slots (sl' := fsS L i [(10, .ptr 2 0 0 0), (26, .i (.sl ((L.drop (i + 1)).map encT))), (27, .i (.int .i64 (L.drop (i + 1)).length)), (28, .i (.int .i64 0))]) (by simp [leS, mkS, fsS])) (first_in p c L i x (L.drop (i + 1)) (by simp; omega) _ (fun y hf => ?_) (fun hf => ?_))
    · rw [hf] at h2
      simp only at h2
      rw [← h2]
      repeat ((conv => whnf); first | refine Br.t ?_ | refine Br.f ?_ | refine ⟨rfl, ?_⟩)
      conv => whnf
      refine fin (target := []) rfl (Nat.zero_le _) (by simp) rfl rfl
    · rw [hf] at h2
      simp only at h2
      repeat ((conv => whnf); first | refine Br.t ?_ | refine Br.f ?_ | refine ⟨rfl, ?_⟩)
      conv => whnf
      refine ⟨i + 1, ⟨by omega, h2⟩, by omega, Le.slots ?_⟩
      simp [leS, mkS, fsS]
      exact i64_id (by omega) (by omega)
  · have g : i = L.length := by simp at g; omega
    subst g
    rw [List.drop_length, firstR] at h2
    rw [← h2]
    repeat ((conv => whnf); first | refine Br.t ?_ | refine Br.f ?_ | refine ⟨rfl, ?_⟩)
    conv => whnf
    refine fin (target := []) rfl (Nat.zero_le _) (by simp) rfl rfl
end Go.Proofs.Ytiikndppckjmhaa.Am

/- Contracts: the example of Race; a program's config behind picks; no lock is two threads'. -/
namespace Go.Proofs.Ytiikndppckjmhaa.Am
set_option autoImplicit false
set_option linter.unusedVariables false
set_option linter.unusedSimpArgs false
set_option maxRecDepth 10000
set_option pp.maxSteps 3000
set_option pp.proofs false
def pTwo : Pg := ⟨1, 0, 1, [[(5, 1, 1, 0), (2, 0, 2, 0), (9, 0, 0, 0)], [(2, 0, 1, 0), (9, 0, 0, 0)]]⟩
theorem chk_pTwo : chk pTwo = (0, 0, 0) := by decide
theorem pTwo_ok : PgOk pTwo := chk_zero (by rw [chk_pTwo])
theorem two_ok : CallW Try.prog G0 83 [] [] (fun r st' => r = pgV pTwo ∧ st' = []) := by
  refine call_of_bodyF 0 (Nat.le_refl _) Try.func83 rfl (fun a w => Try.call83 a w) (wpx_ok (own := own0) _ _ _ ?_)
  repeat ((conv => whnf); first | refine Br.t ?_ | refine Br.f ?_ | refine ⟨rfl, ?_⟩)
  conv => whnf
  refine fin (target := []) rfl (Nat.zero_le _) (by simp) rfl rfl
def cTwo : Cfg := ⟨[⟨[(0, 1)], [2, 0, 0, 0, 0, 0, 0, 0]⟩, ⟨[(1, 0)], [0, 0, 0, 0, 0, 0, 0, 0]⟩], List.replicate 16 0⟩
theorem step_two : stepC pTwo cfg0 0 false = cTwo := by rfl
theorem cTwo_ok : OkC pTwo cTwo := by rw [← step_two]; exact stepC_ok pTwo_ok (cfg0_ok pTwo_ok) 0 false
theorem first_two0 : firstR (touches pTwo cfg0) = none := by rfl
theorem first_two1 : firstR (touches pTwo cTwo) = some ((0, 0, true), (1, 0, true)) := by rfl
set_option maxHeartbeats 2000000 in
theorem raceawake : CallW Try.prog G0 42 [] [] (fun r st' => r = .i (.bool true) ∧ st' = []) := by
  refine call_of_bodyF 0 (Nat.le_refl _) Try.func42 rfl (fun a w => Try.call42 a w) (wpx_ok (own := own0) _ _ _ ?_)
  have c1 := start_ok pTwo (okPg_of' pTwo_ok)
  rw [startC, chk_pTwo, if_pos rfl] at c1
  have c2 := semstep pTwo pTwo_ok cfg0 (cfg0_ok pTwo_ok) 0 false
  rw [step_two] at c2
  have c3 := first_ok pTwo pTwo_ok cfg0 (cfg0_ok pTwo_ok)
  rw [first_two0] at c3
  have c4 := first_ok pTwo pTwo_ok cTwo cTwo_ok
  rw [first_two1] at c4
  repeat ((conv => whnf); first | refine Br.t ?_ | refine Br.f ?_ | refine ⟨rfl, ?_⟩)
  conv => whnf
  refine CallW.mono (two_ok.pure _ rfl rfl) ?_
  rintro r st' ⟨rfl, rfl⟩
  repeat ((conv => whnf); first | refine Br.t ?_ | refine Br.f ?_ | refine ⟨rfl, ?_⟩)
  conv => whnf
  refine CallW.mono (c1.pure _ rfl rfl) ?_
  rintro r st' ⟨rfl, rfl⟩
  repeat ((conv => whnf); first | refine Br.t ?_ | refine Br.f ?_ | refine ⟨rfl, ?_⟩)
  conv => whnf
  refine CallW.mono (c3.pure _ rfl rfl) ?_
  rintro r st' ⟨rfl, rfl⟩
  repeat ((conv => whnf); first | refine Br.t ?_ | refine Br.f ?_ | refine ⟨rfl, ?_⟩)
  conv => whnf
  refine draw_ok (own := own0) [] [] [(cfgV cTwo, [pgB pTwo, cfgB cfg0]), (.tup (firstT (some ((0, 0, true), (1, 0, true)))), [pgB pTwo, cfgB cfg0])] rfl (by kernel_rfl) (Nat.zero_le _) ?_
  repeat ((conv => whnf); first | refine Br.t ?_ | refine Br.f ?_ | refine ⟨rfl, ?_⟩)
  conv => whnf
  refine ⟨c2.pure _ rfl rfl, ?_⟩
  repeat ((conv => whnf); first | refine Br.t ?_ | refine Br.f ?_ | refine ⟨rfl, ?_⟩)
  conv => whnf
  refine ⟨c4.pure _ rfl rfl, ?_⟩
  repeat ((conv => whnf); first | refine Br.t ?_ | refine Br.f ?_ | refine ⟨rfl, ?_⟩)
  conv => whnf
  refine ⟨by repeat ((conv => whnf); first | exact trivial | refine ⟨rfl, ?_⟩), trivial, ?_⟩
  conv => whnf
  repeat ((conv => whnf); first | refine Br.t ?_ | refine Br.f ?_ | refine ⟨rfl, ?_⟩)
  conv => whnf
  refine fin (target := []) rfl (Nat.zero_le _) (by simp) rfl rfl
def runsV (p : Pg) (l : List (Int × Bool)) : V := .tup [cfgV (if (chk p).2.2 = 0 then runC p cfg0 l else cfgZ), .i (.int .i64 (if (chk p).2.2 = 0 then 1 else 0))]
def rnS (l : List (Int × Bool)) (i : Nat) : List V := mkS 31 [(1, .i (.sl (l.map encP))), (2, .ptr 0 0 0 0), (4, .ptr 1 0 0 0), (6, .ptr 2 0 0 0), (8, .i (.int .i64 i))]
set_option maxHeartbeats 2000000 in
theorem runs_ok (p : Pg) (hp0 : okPg p) (l : List (Int × Bool)) (hl : l.length ≤ 1000) : CallW Try.prog G0 43 [pgV p, .i (.sl (l.map encP))] [] (fun r st' => r = runsV p l ∧ st' = []) := by
  refine call_of_bodyF 0 (Nat.le_refl _) Try.func43 rfl (fun a w => Try.call43 a w) (wpx_ok (own := own0) _ _ _ ?_)
  have c0 := start_ok p hp0
  unfold runsV
  by_cases h0 : (chk p).2.2 = 0
  · have hp := chk_zero h0
    have es : startC p = cfg0 := by unfold startC; rw [if_pos h0]
    rw [es, h0] at c0
    rw [if_pos h0, if_pos h0]
    repeat ((conv => whnf); first | refine Br.t ?_ | refine Br.f ?_ | refine ⟨rfl, ?_⟩)
    conv => whnf
    refine CallW.mono (c0.pure _ rfl rfl) ?_
    rintro r st' ⟨rfl, rfl⟩
    repeat ((conv => whnf); first | refine Br.t ?_ | refine Br.f ?_ | refine ⟨rfl, ?_⟩)
    conv => whnf
    refine loop_ok (α := Nat) (fun i => ⟨rnS l i, [pgB p, zeroB, cfgB (runC p cfg0 (l.take i))]⟩)
      (fun i => i ≤ l.length) (fun i => l.length - i) 0 (Nat.zero_le _) (Le.slots (by simp [leS, mkS, rnS])) (fun i hi => wpx_ok (own := own0) _ _ _ ?_)
    have hc : OkC p (runC p cfg0 (l.take i)) := runC_ok hp _ (cfg0_ok hp)
    have hfull : i = l.length → runC p cfg0 (l.take i) = runC p cfg0 l := fun e => by rw [e, List.take_length]
    obtain ⟨c, hcc⟩ : ∃ c, c = runC p cfg0 (l.take i) := ⟨_, rfl⟩
    rw [← hcc] at hc hfull ⊢
    repeat ((conv => whnf); first | refine Br.t ?_ | refine Br.f ?_ | refine ⟨rfl, ?_⟩)
    conv => whnf
    refine Br.mk (fun g => ?_) (fun g => ?_)
    · have g : i < l.length := by simpa using g
      obtain ⟨x, hx⟩ : ∃ x, l[i]? = some x := ⟨_, List.getElem?_eq_getElem g⟩
      have ex : (l.map encP).getD (i : Int).toNat [] = encP x := by rw [Int.toNat_natCast]; simp [List.getD_eq_getElem?_getD, hx]
      have cs := semstep p hp c hc x.1 x.2
      have hrun := run_snoc p cfg0 l i x hx
      rw [← hcc] at hrun
      obtain ⟨d, hdd⟩ : ∃ d, d = stepC p c x.1 x.2 := ⟨_, rfl⟩
      rw [← hdd] at cs hrun
      repeat ((conv => whnf); first | refine Br.t ?_ | refine Br.f ?_ | refine ⟨rfl, ?_⟩)
      conv => whnf
      refine draw_ok (own := own0) [7] [] [(cfgV d, [pgB p, zeroB, cfgB c])] rfl (by kernel_rfl) (Nat.zero_le _) ?_
      repeat ((conv => whnf); first | refine Br.t ?_ | refine Br.f ?_ | refine ⟨rfl, ?_⟩)
      conv => whnf
      rw [ex]
      refine ⟨⟨by omega, by simp; omega, rfl⟩, ?_⟩
      repeat ((conv => whnf); first | refine Br.t ?_ | refine Br.f ?_ | refine ⟨rfl, ?_⟩)
      conv => whnf
      refine ⟨cs.pure _ rfl rfl, ?_⟩
      repeat ((conv => whnf); first | refine Br.t ?_ | refine Br.f ?_ | refine ⟨rfl, ?_⟩)
      conv => whnf
      refine ⟨by repeat ((conv => whnf); first | exact trivial | refine ⟨rfl, ?_⟩), trivial, ?_⟩
      conv => whnf
      repeat ((conv => whnf); first | refine Br.t ?_ | refine Br.f ?_ | refine ⟨rfl, ?_⟩)
      conv => whnf
      refine ⟨i + 1, by omega, by omega, ?_⟩
      rw [hrun]
      refine Le.slots ?_
      simp [leS, mkS, rnS]
      exact i64_id (by omega) (by omega)
    · have g : i = l.length := by simp at g; omega
      rw [hfull g]
      repeat ((conv => whnf); first | refine Br.t ?_ | refine Br.f ?_ | refine ⟨rfl, ?_⟩)
      conv => whnf
      refine fin (target := []) rfl (Nat.zero_le _) (by simp) rfl rfl
  · have es : startC p = cfgZ := by unfold startC; rw [if_neg h0]
    rw [es] at c0
    rw [if_neg h0, if_neg h0]
    repeat ((conv => whnf); first | refine Br.t ?_ | refine Br.f ?_ | refine ⟨rfl, ?_⟩)
    conv => whnf
    refine CallW.mono (c0.pure _ rfl rfl) ?_
    rintro r st' ⟨rfl, rfl⟩
    repeat ((conv => whnf); first | refine Br.t ?_ | refine Br.f ?_ | refine ⟨rfl, ?_⟩)
    conv => whnf
    refine Br.mk (fun _ => ?_) (fun h => ?_)
    · repeat ((conv => whnf); first | refine Br.t ?_ | refine Br.f ?_ | refine ⟨rfl, ?_⟩)
      conv => whnf
      refine fin (target := []) rfl (Nat.zero_le _) (by simp) rfl rfl
    · exact absurd (by simpa using h) h0
theorem held_apart (c : Cfg) {a b : Nat} (h : a ≠ b) : held c (a : Int) &&& held c (b : Int) = 0 := by
  apply Nat.eq_of_testBit_eq
  intro i
  rw [Nat.testBit_and, Nat.zero_testBit, held_bit, held_bit]
  rw [Bool.eq_false_iff]
  intro hh
  rw [Bool.and_eq_true, decide_eq_true_eq, decide_eq_true_eq] at hh
  omega
def rlS (x : List (Nat × V)) : List V := mkS 57 ([(5, .ptr 1 0 0 0)] ++ x)
set_option maxHeartbeats 1000000 in
theorem rl_in (p : Pg) (c : Cfg) (hc : OkC p c) (a : Nat) (ha : a ≤ 1000) :
    W Try.prog G0 0 (.loop (lp Try.f12 1)) (fun e s' => e = .exit 2 ∧ s' = ⟨rlS [(7, .i (.int .i64 a))], [pgB p, cfgB c]⟩) ⟨rlS [(7, .i (.int .i64 a)), (8, .i (.int .i64 0))], [pgB p, cfgB c]⟩ := by
  have hn := hc.n.2
  refine W.weak (loop_ok (α := Nat) (fun b => ⟨rlS [(7, .i (.int .i64 a)), (8, .i (.int .i64 b))], [pgB p, cfgB c]⟩)
    (fun b => b ≤ c.ths.length) (fun b => c.ths.length - b) 0 (Nat.zero_le _) (Le.refl _ _) (fun b hb => wpx_ok (own := own0) _ _ _ ?_))
  repeat ((conv => whnf); first | refine Br.t ?_ | refine Br.f ?_ | refine ⟨rfl, ?_⟩)
  conv => whnf
  refine Br.mk (fun g => ?_) (fun g => ?_)
  · have g : b < c.ths.length := by simpa using g
    by_cases hab : a = b
    · repeat ((conv => whnf); first | refine Br.t ?_ | refine Br.f ?_ | refine ⟨rfl, ?_⟩)
      conv => whnf
      refine draw_ok (own := own0) [] [] [] rfl (by kernel_rfl) (Nat.zero_le _) ?_
      repeat ((conv => whnf); first | refine Br.t ?_ | refine Br.f ?_ | refine ⟨rfl, ?_⟩)
      conv => whnf
      refine Br.mk (fun h => by simp [hab] at h) (fun _ => ?_)
      repeat ((conv => whnf); first | refine Br.t ?_ | refine Br.f ?_ | refine ⟨rfl, ?_⟩)
      conv => whnf
      refine ⟨by repeat ((conv => whnf); first | exact trivial | refine ⟨rfl, ?_⟩), trivial, ?_⟩
      conv => whnf
      repeat ((conv => whnf); first | refine Br.t ?_ | refine Br.f ?_ | refine ⟨rfl, ?_⟩)
      conv => whnf
      refine ⟨b + 1, by omega, by omega, Le.slots ?_⟩
      simp [leS, mkS, rlS]
      exact i64_id (by omega) (by omega)
    · · have h1 := held_ok c (a : Int) (by omega)
        have h2 := held_ok c (b : Int) (by omega)
        have e := and32' (held_lt c (a : Int)) (held_lt c (b : Int))
        rw [held_apart c hab] at e
        obtain ⟨u, hu⟩ : ∃ u, u = held c (a : Int) := ⟨_, rfl⟩
        obtain ⟨v, hv⟩ : ∃ v, v = held c (b : Int) := ⟨_, rfl⟩
        rw [← hu] at h1 e
        rw [← hv] at h2 e
        repeat ((conv => whnf); first | refine Br.t ?_ | refine Br.f ?_ | refine ⟨rfl, ?_⟩)
        conv => whnf
        refine draw_ok (own := own0) [] [] [(.i (.int .u32 (u : Nat)), [pgB p, cfgB c]), (.i (.int .u32 (v : Nat)), [pgB p, cfgB c])] rfl (by kernel_rfl) (Nat.zero_le _) ?_
        repeat ((conv => whnf); first | refine Br.t ?_ | refine Br.f ?_ | refine ⟨rfl, ?_⟩)
        conv => whnf
        refine Br.mk (fun _ => ?_) (fun h => by simp at h; omega)
        repeat ((conv => whnf); first | refine Br.t ?_ | refine Br.f ?_ | refine ⟨rfl, ?_⟩)
        conv => whnf
        refine ⟨h1.pure _ rfl rfl, ?_⟩
        repeat ((conv => whnf); first | refine Br.t ?_ | refine Br.f ?_ | refine ⟨rfl, ?_⟩)
        conv => whnf
        refine ⟨h2.pure _ rfl rfl, ?_⟩
        repeat ((conv => whnf); first | refine Br.t ?_ | refine Br.f ?_ | refine ⟨rfl, ?_⟩)
        conv => whnf
        rw [e]
        repeat ((conv => whnf); first | refine Br.t ?_ | refine Br.f ?_ | refine ⟨rfl, ?_⟩)
        conv => whnf
        refine ⟨by repeat ((conv => whnf); first | exact trivial | refine ⟨rfl, ?_⟩), trivial, ?_⟩
        conv => whnf
        repeat ((conv => whnf); first | refine Br.t ?_ | refine Br.f ?_ | refine ⟨rfl, ?_⟩)
        conv => whnf
        refine ⟨b + 1, by omega, by omega, Le.slots ?_⟩
        simp [leS, mkS, rlS]
        exact i64_id (by omega) (by omega)
  · have g : b = c.ths.length := by simp at g; omega
    repeat ((conv => whnf); first | refine Br.t ?_ | refine Br.f ?_ | refine ⟨rfl, ?_⟩)
    conv => whnf
    exact ⟨_, Le.slots (by simp [leS, mkS, rlS]), rfl, rfl⟩
set_option maxHeartbeats 2000000 in
theorem racelocks (p : Pg) (hp0 : okPg p) (l : List (Int × Bool)) (hl : okL l) : CallW Try.prog G0 12 [pgV p, .i (.sl (l.map encP))] [] (fun r st' => r = .i (.bool true) ∧ st' = []) := by
  refine call_of_bodyF 0 (Nat.le_refl _) Try.func12 rfl (fun a w => Try.call12 a w) (wpx_ok (own := own0) _ _ _ ?_)
  unfold okL at hl
  repeat ((conv => whnf); first | refine Br.t ?_ | refine Br.f ?_ | refine ⟨rfl, ?_⟩)
  conv => whnf
  refine CallW.mono (raceawake.pure _ rfl rfl) ?_
  rintro r st' ⟨rfl, rfl⟩
  repeat ((conv => whnf); first | refine Br.t ?_ | refine Br.f ?_ | refine ⟨rfl, ?_⟩)
  conv => whnf
  refine CallW.mono ((small16 p hp0).pure _ rfl rfl) ?_
  rintro r st' ⟨rfl, rfl⟩
  repeat ((conv => whnf); first | refine Br.t ?_ | refine Br.f ?_ | refine ⟨rfl, ?_⟩)
  conv => whnf
  refine Br.mk (fun z => ?_) (fun z => ?_)
  · repeat ((conv => whnf); first | refine Br.t ?_ | refine Br.f ?_ | refine ⟨rfl, ?_⟩)
    conv => whnf
    refine CallW.mono (raceawake.pure _ rfl rfl) ?_
    rintro r st' ⟨rfl, rfl⟩
    repeat ((conv => whnf); first | refine Br.t ?_ | refine Br.f ?_ | refine ⟨rfl, ?_⟩)
    conv => whnf
    refine fin (target := []) rfl (Nat.zero_le _) (by simp) rfl rfl
  · repeat ((conv => whnf); first | refine Br.t ?_ | refine Br.f ?_ | refine ⟨rfl, ?_⟩)
    conv => whnf
    refine Br.mk (fun z2 => ?_) (fun z2 => ?_)
    · repeat ((conv => whnf); first | refine Br.t ?_ | refine Br.f ?_ | refine ⟨rfl, ?_⟩)
      conv => whnf
      refine CallW.mono (raceawake.pure _ rfl rfl) ?_
      rintro r st' ⟨rfl, rfl⟩
      repeat ((conv => whnf); first | refine Br.t ?_ | refine Br.f ?_ | refine ⟨rfl, ?_⟩)
      conv => whnf
      refine fin (target := []) rfl (Nat.zero_le _) (by simp) rfl rfl
    · have hll : l.length ≤ 300 := by simp at z2; omega
      have cr := runs_ok p hp0 l (by omega)
      unfold runsV at cr
      by_cases h0 : (chk p).2.2 = 0
      · have hp := chk_zero h0
        rw [if_pos h0, if_pos h0] at cr
        have hc : OkC p (runC p cfg0 l) := runC_ok hp _ (cfg0_ok hp)
        obtain ⟨c, hcc⟩ : ∃ c, c = runC p cfg0 l := ⟨_, rfl⟩
        rw [← hcc] at cr hc
        have hn := hc.n.2
        repeat ((conv => whnf); first | refine Br.t ?_ | refine Br.f ?_ | refine ⟨rfl, ?_⟩)
        conv => whnf
        refine CallW.mono (cr.pure _ rfl rfl) ?_
        rintro r st' ⟨rfl, rfl⟩
        repeat ((conv => whnf); first | refine Br.t ?_ | refine Br.f ?_ | refine ⟨rfl, ?_⟩)
        conv => whnf
        refine loop_ok (α := Nat) (fun a => ⟨rlS [(7, .i (.int .i64 a))], [pgB p, cfgB c]⟩)
          (fun a => a ≤ c.ths.length) (fun a => c.ths.length - a) 0 (Nat.zero_le _) (Le.slots (by simp [leS, mkS, rlS])) (fun a ha => wpx_ok (own := own0) _ _ _ ?_)
        repeat ((conv => whnf); first | refine Br.t ?_ | refine Br.f ?_ | refine ⟨rfl, ?_⟩)
        conv => whnf
        refine Br.mk (fun g => ?_) (fun g => ?_)
        · have g : a < c.ths.length := by simpa using g
          repeat ((conv => whnf); first | refine Br.t ?_ | refine Br.f ?_ | refine ⟨rfl, ?_⟩)
          conv => whnf
          refine W.le (s' := ⟨rlS [(7, .i (.int .i64 a)), (8, .i (.int .i64 0))], [pgB p, cfgB c]⟩) (Le.slots (by simp [leS, mkS, rlS])) (W.mono (rl_in p c hc a (by omega)) ?_)
          rintro e s' ⟨rfl, rfl⟩
          repeat ((conv => whnf); first | refine Br.t ?_ | refine Br.f ?_ | refine ⟨rfl, ?_⟩)
          conv => whnf
          refine ⟨a + 1, by omega, by omega, Le.slots ?_⟩
          simp [leS, mkS, rlS]
          exact i64_id (by omega) (by omega)
        · repeat ((conv => whnf); first | refine Br.t ?_ | refine Br.f ?_ | refine ⟨rfl, ?_⟩)
          conv => whnf
          refine fin (target := []) rfl (Nat.zero_le _) (by simp) rfl rfl
      · rw [if_neg h0, if_neg h0] at cr
        repeat ((conv => whnf); first | refine Br.t ?_ | refine Br.f ?_ | refine ⟨rfl, ?_⟩)
        conv => whnf
        refine CallW.mono (cr.pure _ rfl rfl) ?_
        rintro r st' ⟨rfl, rfl⟩
        repeat ((conv => whnf); first | refine Br.t ?_ | refine Br.f ?_ | refine ⟨rfl, ?_⟩)
        conv => whnf
        refine fin (target := []) rfl (Nat.zero_le _) (by simp) rfl rfl
end Go.Proofs.Ytiikndppckjmhaa.Am

/- Contracts: going along a script; what a script comes to. -/
namespace Go.Proofs.Ytiikndppckjmhaa.Am
set_option autoImplicit false
set_option linter.unusedVariables false
set_option linter.unusedSimpArgs false
set_option maxRecDepth 10000
set_option pp.maxSteps 3000
set_option pp.proofs false
def lB (l : List (Int × Bool)) : Ob := .row 0 1 false [[.i (.sl (l.map encP))]]
theorem lB_cl (l : List (Int × Bool)) (m : Nat) : (lB l).cl m := by intro cs hcs; simp only [List.mem_singleton] at hcs; subst hcs; rfl
def fnAl (a b : Nat) : V := .fn (.func 91) [] [.ptr a 0 0 0, .ptr b 0 0 0]
theorem along_ok (p : Pg) (l : List (Int × Bool)) : CallW Try.prog G0 55 [pgV p, .i (.sl (l.map encP))] [] (fun r st' => r = fnAl 0 1 ∧ st' = [pgB p, lB l]) := by
  refine call_of_body Try.func55 rfl (fun a w => Try.call55 a w) (wpx_ok (own := own0) _ _ _ ?_)
  repeat ((conv => whnf); first | refine Br.t ?_ | refine Br.f ?_ | refine ⟨rfl, ?_⟩)
  conv => whnf
  rfl
theorem hG0 : ∀ g, G0 g = none := fun _ => rfl
def Y0 : Yt := fun _ _ _ _ => False
theorem y0_ok {P : Program} {ro : Option Nat} {cx : Cx} : YOK P ro cx Y0 := fun _ _ _ _ h => h.elim
theorem along_in (p : Pg) (l : List (Int × Bool)) (big : List Ob) : CallW Try.prog G0 55 [pgV p, .i (.sl (l.map encP))] big (fun r st' => r = fnAl big.length (big.length + 1) ∧ st' = big ++ [pgB p, lB l]) := by
  refine (CallW.rise (bargs := [pgV p, .i (.sl (l.map encP))]) (big := big) [] [] (along_ok p l) rfl (by simp) (by simp) rfl (by simp) (by simp) rfl (fun j s v hs hv => .inl ⟨by rcases j with _ | _ | j <;> simp at hs <;> subst hs <;> rfl, by rcases j with _ | _ | j <;> simp at hs hv <;> subst hs <;> subst hv <;> rfl⟩) (.inl rfl)).mono ?_
  rintro r st' ⟨r0, s0, ⟨rfl, rfl⟩, rfl, rfl⟩
  refine ⟨?_, ?_⟩
  · simp [fnAl, V.ren, V.ren.renAll, fm]
  · simp [putAll]
    exact ⟨rfl, rfl⟩
/-- the outer store of Run: what stands beside the iterator -/
def ruB (p : Pg) (l : List (Int × Bool)) (c : Cfg) : List Ob := [pgB p, zeroB, cfgB c, pgB p, lB l]
def alS (l : List (Int × Bool)) (y : V) (a b k : Nat) (i : Nat) : List V := mkS 39 [(0, y), (1, .ptr a 0 0 0), (2, .ptr b 0 0 0), (4, .ptr k 0 0 0), (21, .i (.sl (l.map encP))), (22, .i (.int .i64 l.length)), (23, .i (.int .i64 i))]
theorem ruB_cl (p : Pg) (l : List (Int × Bool)) (c d : Cfg) (m : Nat) : ∀ o ∈ ruB p l c ++ [cfgB d], o.cl m := by
  intro o ho
  simp only [ruB, List.cons_append, List.nil_append, List.mem_cons, List.not_mem_nil, or_false] at ho
  rcases ho with rfl | rfl | rfl | rfl | rfl | rfl
  · exact pgB_cl p m
  · exact zeroB_cl m
  · exact cfgB_cl _ m
  · exact pgB_cl p m
  · exact lB_cl l m
  · exact cfgB_cl _ m
set_option maxHeartbeats 4000000 in
theorem run_ok (p : Pg) (hp0 : okPg p) (l : List (Int × Bool)) (hl : l.length ≤ 100000) : CallW Try.prog G0 53 [pgV p, .i (.sl (l.map encP))] [] (fun r st' => r = .tup [cfgV (if (chk p).2.2 = 0 then runC p cfg0 l else cfgZ), .i (.int .i64 (chk p).2.2)] ∧ st' = []) := by
  refine call_of_bodyZ 0 (Nat.le_refl _) Try.func53 rfl (fun a w => Try.call53 a w) (zx_ok (own := own0) cx0_good y0_ok hG0 (Nat.zero_le _) _ _ _ _ ?_)
  have c0 := start_ok p hp0
  by_cases h0 : (chk p).2.2 = 0
  · have hp := chk_zero h0
    have es : startC p = cfg0 := by unfold startC; rw [if_pos h0]
    rw [es, h0] at c0
    rw [if_pos h0, h0]
    repeat ((conv => whnf); first | refine Br.t ?_ | refine Br.f ?_ | refine ⟨rfl, ?_⟩)
    conv => whnf
    refine CallW.mono (c0.pure _ rfl rfl) ?_
    rintro r st' ⟨rfl, rfl⟩
    repeat ((conv => whnf); first | refine Br.t ?_ | refine Br.f ?_ | refine ⟨rfl, ?_⟩)
    conv => whnf
    refine CallW.mono (along_in p l _) ?_
    rintro r st' ⟨rfl, rfl⟩
    repeat ((conv => whnf); first | refine Br.t ?_ | refine Br.f ?_ | refine ⟨rfl, ?_⟩)
    conv => whnf
    refine zrange (Kit := fun st' p' => p' = none ∧ st' = ruB p l (runC p cfg0 l) ++ [cfgB (runC p cfg0 l)]) hG0 rfl (fun a w => Try.call91 a w) ?_ ?_
    · rintro l' ⟨q1, q2, q3, q4, q5, q6, q7, q8⟩ rfl rfl rfl
      refine it_of_body Try.func91 rfl rfl (zx_ok (own := own0) (cxIt_good _ _ _ _) (yit_ok (G := G0) _ _ _ _) hG0 (Nat.le_refl _) _ _ _ _ ?_)
      repeat ((conv => whnf); first | refine Br.t ?_ | refine Br.f ?_ | refine ⟨rfl, ?_⟩)
      conv => whnf
      refine CallW.mono (c0.pure _ rfl rfl) ?_
      rintro r st' ⟨rfl, rfl⟩
      repeat ((conv => whnf); first | refine Br.t ?_ | refine Br.f ?_ | refine ⟨rfl, ?_⟩)
      conv => whnf
      refine zx_ok (own := own0) (cxR_good _ _) y0_ok hG0 (Nat.zero_le _) _ _ _ _ ?_
      repeat ((conv => whnf); first | refine Br.t ?_ | refine Br.f ?_ | refine ⟨rfl, ?_⟩)
      conv => whnf
      refine zx_ok (own := own0) (cxR_good _ _) y0_ok hG0 (Nat.zero_le _) _ _ _ _ ?_
      repeat ((conv => whnf); first | refine Br.t ?_ | refine Br.f ?_ | refine ⟨rfl, ?_⟩)
      conv => whnf
      have hbd : ∀ i, i ≤ l.length → OkC p (runC p cfg0 (l.take i)) := fun i hi => runC_ok hp _ (cfg0_ok hp)
      refine zloop_ok (α := Nat) (cxIt_good _ _ _ _) (Nat.le_refl _) (fun i => ⟨alS l (.fn (.yield l') [] []) 3 4 5 i, ruB p l (runC p cfg0 (l.take i)) ++ [cfgB (runC p cfg0 (l.take i))]⟩) (fun i => i ≤ l.length) (fun i => l.length - i) 0 (Nat.zero_le _) (Le.back (fun _ => 0) (by intro id hid; rfl) (Nat.le_succ 5) rfl (by exact ruB_cl p l _ _ _) (by simp [leS, alS, mkS, V.up, V.up.upAll]) rfl) ?_
      intro i hi
      refine zx_ok (own := own0) (cxIt_good _ _ _ _) (yit_ok (G := G0) _ _ _ _) hG0 (Nat.le_refl _) _ _ _ _ ?_
      repeat ((conv => whnf); first | refine Br.t ?_ | refine Br.f ?_ | refine ⟨rfl, ?_⟩)
      conv => whnf
      by_cases hil : i < l.length
      · have hii : (i : Int) < l.length := by omega
        have he : l[i]? = some l[i] := List.getElem?_eq_getElem hil
        have he2 : (l.map encP)[i]? = some (encP l[i]) := by rw [List.getElem?_map, he]; rfl
        have hi0 : (0 : Int) ≤ i := by omega
        have hs := semstep p hp _ (hbd i hi) l[i].1 l[i].2
        repeat ((conv => whnf); first | refine Br.t ?_ | refine Br.f ?_ | refine ⟨rfl, ?_⟩)
        conv => whnf
        refine Br.mk (fun _ => ?_) (fun k => absurd k (by simp; omega))
        repeat ((conv => whnf); first | refine Br.t ?_ | refine Br.f ?_ | refine ⟨rfl, ?_⟩)
        conv => whnf
        have ex : (l.map encP).getD (i : Int).toNat [] = encP l[i] := by
          rw [Int.toNat_natCast, List.getD_eq_getElem?_getD, he2]; rfl
        rw [ex]
        refine ⟨⟨by omega, by simp; omega, rfl⟩, ?_⟩
        repeat ((conv => whnf); first | refine Br.t ?_ | refine Br.f ?_ | refine ⟨rfl, ?_⟩)
        conv => whnf
        refine CallW.mono (hs.pure _ rfl rfl) ?_
        rintro r st' ⟨rfl, rfl⟩
        repeat ((conv => whnf); first | refine Br.t ?_ | refine Br.f ?_ | refine ⟨rfl, ?_⟩)
        conv => whnf
        refine zx_ok (own := own0) (cxR_good _ _) y0_ok hG0 (Nat.zero_le _) _ _ _ _ ?_
        repeat ((conv => whnf); first | refine Br.t ?_ | refine Br.f ?_ | refine ⟨rfl, ?_⟩)
        conv => whnf
        refine zx_ok (own := own0) (cxR_good _ _) y0_ok hG0 (Nat.zero_le _) _ _ _ _ ?_
        repeat ((conv => whnf); first | refine Br.t ?_ | refine Br.f ?_ | refine ⟨rfl, ?_⟩)
        conv => whnf
        refine ⟨i + 1, rfl, by omega, by omega, ?_⟩
        rw [run_snoc p cfg0 l i _ he]
        exact Le.back (fun _ => 0) (by intro id hid; rfl) (Nat.le_succ 5) rfl (by exact ruB_cl p l _ _ _) (by simp [leS, alS, mkS, V.up, V.up.upAll]; exact i64_id (by omega) (by omega)) rfl
      · have hii : ¬ (i : Int) < l.length := by omega
        repeat ((conv => whnf); first | refine Br.t ?_ | refine Br.f ?_ | refine ⟨rfl, ?_⟩)
        conv => whnf
        refine Br.mk (fun k => absurd k (by simp; omega)) (fun _ => ?_)
        repeat ((conv => whnf); first | refine Br.t ?_ | refine Br.f ?_ | refine ⟨rfl, ?_⟩)
        conv => whnf
        have ei : i = l.length := by omega
        subst ei
        rw [List.take_length]
        rfl
    · rintro st' p' ⟨rfl, rfl⟩
      repeat ((conv => whnf); first | refine Br.t ?_ | refine Br.f ?_ | refine ⟨rfl, ?_⟩)
      conv => whnf
      exact ⟨Nat.zero_le _, rfl, (fun _ h => nomatch h), rfl, rfl⟩
  · have es : startC p = cfgZ := by unfold startC; rw [if_neg h0]
    rw [es] at c0
    rw [if_neg h0]
    repeat ((conv => whnf); first | refine Br.t ?_ | refine Br.f ?_ | refine ⟨rfl, ?_⟩)
    conv => whnf
    refine CallW.mono (c0.pure _ rfl rfl) ?_
    rintro r st' ⟨rfl, rfl⟩
    repeat ((conv => whnf); first | refine Br.t ?_ | refine Br.f ?_ | refine ⟨rfl, ?_⟩)
    conv => whnf
    refine Br.mk (fun _ => ?_) (fun k => absurd h0 (by simpa using k))
    repeat ((conv => whnf); first | refine Br.t ?_ | refine Br.f ?_ | refine ⟨rfl, ?_⟩)
    conv => whnf
    exact ⟨Nat.zero_le _, rfl, (fun _ h => nomatch h), rfl, rfl⟩
end Go.Proofs.Ytiikndppckjmhaa.Am

/- Contracts: the first config on the way of a script in which two race. -/
namespace Go.Proofs.Ytiikndppckjmhaa.Am
set_option autoImplicit false
set_option linter.unusedVariables false
set_option linter.unusedSimpArgs false
set_option maxRecDepth 10000
set_option pp.maxSteps 3000
set_option pp.proofs false
/-- do two race behind the first i picks? -/
def metAt (p : Pg) (l : List (Int × Bool)) (i : Nat) : Bool := (firstR (touches p (runC p cfg0 (l.take i)))).isSome
def meets (p : Pg) (l : List (Int × Bool)) : Option Nat := (List.range (l.length + 1)).find? (metAt p l)
theorem meets_some {p : Pg} {l : List (Int × Bool)} {i : Nat} (hi : i ≤ l.length) (h : metAt p l i = true) (hj : ∀ j, j < i → metAt p l j = false) : meets p l = some i := by
  unfold meets
  rw [List.find?_range_eq_some]
  exact ⟨h, by simp; omega, fun j hj' => by simp [hj j hj']⟩
theorem meets_none {p : Pg} {l : List (Int × Bool)} (hj : ∀ j, j ≤ l.length → metAt p l j = false) : meets p l = none := by
  unfold meets
  rw [List.find?_range_eq_none]
  intro j hj'
  simp [hj j (by omega)]
def intB (n : Int) : Ob := .row 0 1 false [[.i (.int .i64 n)]]
def boolB (b : Bool) : Ob := .row 0 1 false [[.i (.bool b)]]
def meB (p : Pg) (l : List (Int × Bool)) (n : Int) (b : Bool) : List Ob := [pgB p, intB n, boolB b, pgB p, lB l]
theorem meB_cl (p : Pg) (l : List (Int × Bool)) (n : Int) (b : Bool) (c : Cfg) (m : Nat) : ∀ o ∈ meB p l n b ++ [cfgB c], o.cl m := by
  intro o ho
  simp only [meB, List.cons_append, List.nil_append, List.mem_cons, List.not_mem_nil, or_false] at ho
  rcases ho with rfl | rfl | rfl | rfl | rfl | rfl
  · exact pgB_cl p m
  · intro cs hcs; simp only [List.mem_singleton] at hcs; subst hcs; rfl
  · intro cs hcs; simp only [List.mem_singleton] at hcs; subst hcs; rfl
  · exact pgB_cl p m
  · exact lB_cl l m
  · exact cfgB_cl _ m
def meN (o : Option Nat) : Int := match o with | some i => (i : Nat) | none => 0
def meKit (p : Pg) (l : List (Int × Bool)) : List Ob → Option Code → Prop := fun st' p' => (p' = none ∧ meets p l = none ∧ ∃ c, st' = meB p l 0 false ++ [cfgB c]) ∨ (p' = some .ret ∧ ∃ (i : Nat) (rest : List Ob), meets p l = some i ∧ st' = meB p l i true ++ rest)
set_option maxHeartbeats 4000000 in
theorem meets_ok (p : Pg) (hp0 : okPg p) (h0 : (chk p).2.2 = 0) (l : List (Int × Bool)) (hl : l.length ≤ 100000) : CallW Try.prog G0 54 [pgV p, .i (.sl (l.map encP))] [] (fun r st' => r = .tup [.i (.int .i64 (meN (meets p l))), .i (.bool (meets p l).isSome)] ∧ st' = []) := by
  refine call_of_bodyZ 0 (Nat.le_refl _) Try.func54 rfl (fun a w => Try.call54 a w) (zx_ok (own := own0) cx0_good y0_ok hG0 (Nat.zero_le _) _ _ _ _ ?_)
  have c0 := start_ok p hp0
  have hp := chk_zero h0
  have es : startC p = cfg0 := by unfold startC; rw [if_pos h0]
  rw [es, h0] at c0
  repeat ((conv => whnf); first | refine Br.t ?_ | refine Br.f ?_ | refine ⟨rfl, ?_⟩)
  conv => whnf
  refine CallW.mono (along_in p l _) ?_
  rintro r st' ⟨rfl, rfl⟩
  repeat ((conv => whnf); first | refine Br.t ?_ | refine Br.f ?_ | refine ⟨rfl, ?_⟩)
  conv => whnf
  refine zrange (Kit := meKit p l) hG0 rfl (fun a w => Try.call91 a w) ?_ ?_
  · rintro l' ⟨q1, q2, q3, q4, q5, q6, q7, q8⟩ rfl rfl rfl
    refine it_of_body Try.func91 rfl rfl (zx_ok (own := own0) (cxIt_good _ _ _ _) (yit_ok (G := G0) _ _ _ _) hG0 (Nat.le_refl _) _ _ _ _ ?_)
    repeat ((conv => whnf); first | refine Br.t ?_ | refine Br.f ?_ | refine ⟨rfl, ?_⟩)
    conv => whnf
    refine CallW.mono (c0.pure _ rfl rfl) ?_
    rintro r st' ⟨rfl, rfl⟩
    have cf := first_ok p hp cfg0 (cfg0_ok hp)
    have hm0 : metAt p l 0 = (firstR (touches p cfg0)).isSome := rfl
    cases hf : firstR (touches p cfg0) with
    | some xy =>
      obtain ⟨x, y⟩ := xy
      rw [hf] at cf hm0
      repeat ((conv => whnf); first | refine Br.t ?_ | refine Br.f ?_ | refine ⟨rfl, ?_⟩)
      conv => whnf
      refine zx_ok (own := own0) (cxR_good _ _) y0_ok hG0 (Nat.zero_le _) _ _ _ _ ?_
      repeat ((conv => whnf); first | refine Br.t ?_ | refine Br.f ?_ | refine ⟨rfl, ?_⟩)
      conv => whnf
      refine zx_ok (own := own0) (cxR_good _ _) y0_ok hG0 (Nat.zero_le _) _ _ _ _ ?_
      repeat ((conv => whnf); first | refine Br.t ?_ | refine Br.f ?_ | refine ⟨rfl, ?_⟩)
      conv => whnf
      refine CallW.mono (cf.pure _ rfl rfl) ?_
      rintro r st' ⟨rfl, rfl⟩
      repeat ((conv => whnf); first | refine Br.t ?_ | refine Br.f ?_ | refine ⟨rfl, ?_⟩)
      conv => whnf
      exact .inr ⟨rfl, 0, _, meets_some (Nat.zero_le _) hm0 (fun j hj => absurd hj (Nat.not_lt_zero j)), rfl⟩
    | none =>
      rw [hf] at cf hm0
      repeat ((conv => whnf); first | refine Br.t ?_ | refine Br.f ?_ | refine ⟨rfl, ?_⟩)
      conv => whnf
      refine zx_ok (own := own0) (cxR_good _ _) y0_ok hG0 (Nat.zero_le _) _ _ _ _ ?_
      repeat ((conv => whnf); first | refine Br.t ?_ | refine Br.f ?_ | refine ⟨rfl, ?_⟩)
      conv => whnf
      refine zx_ok (own := own0) (cxR_good _ _) y0_ok hG0 (Nat.zero_le _) _ _ _ _ ?_
      repeat ((conv => whnf); first | refine Br.t ?_ | refine Br.f ?_ | refine ⟨rfl, ?_⟩)
      conv => whnf
      refine CallW.mono (cf.pure _ rfl rfl) ?_
      rintro r st' ⟨rfl, rfl⟩
      repeat ((conv => whnf); first | refine Br.t ?_ | refine Br.f ?_ | refine ⟨rfl, ?_⟩)
      conv => whnf
      have hbd : ∀ i, i ≤ l.length → OkC p (runC p cfg0 (l.take i)) := fun i hi => runC_ok hp _ (cfg0_ok hp)
      refine zloop_ok (α := Nat) (cxIt_good _ _ _ _) (Nat.le_refl _) (fun i => ⟨alS l (.fn (.yield l') [] []) 3 4 5 i, meB p l 0 false ++ [cfgB (runC p cfg0 (l.take i))]⟩) (fun i => i ≤ l.length ∧ ∀ j, j ≤ i → metAt p l j = false) (fun i => l.length - i) 0 ⟨Nat.zero_le _, fun j hj => by rw [Nat.le_zero.1 hj]; exact hm0⟩ (Le.back (fun _ => 0) (by intro id hid; rfl) (Nat.le_succ 5) rfl (by exact meB_cl p l _ _ _ _) (by simp [leS, alS, mkS, V.up, V.up.upAll]) rfl) ?_
      rintro i ⟨hi, him⟩
      refine zx_ok (own := own0) (cxIt_good _ _ _ _) (yit_ok (G := G0) _ _ _ _) hG0 (Nat.le_refl _) _ _ _ _ ?_
      repeat ((conv => whnf); first | refine Br.t ?_ | refine Br.f ?_ | refine ⟨rfl, ?_⟩)
      conv => whnf
      by_cases hil : i < l.length
      · have hii : (i : Int) < l.length := by omega
        have he : l[i]? = some l[i] := List.getElem?_eq_getElem hil
        have he2 : (l.map encP)[i]? = some (encP l[i]) := by rw [List.getElem?_map, he]; rfl
        have hi0 : (0 : Int) ≤ i := by omega
        have hs := semstep p hp _ (hbd i hi) l[i].1 l[i].2
        refine Br.mk (fun _ => ?_) (fun k => absurd k (by simp; omega))
        repeat ((conv => whnf); first | refine Br.t ?_ | refine Br.f ?_ | refine ⟨rfl, ?_⟩)
        conv => whnf
        have ex : (l.map encP).getD (i : Int).toNat [] = encP l[i] := by
          rw [Int.toNat_natCast, List.getD_eq_getElem?_getD, he2]; rfl
        rw [ex]
        refine ⟨⟨by omega, by simp; omega, rfl⟩, ?_⟩
        repeat ((conv => whnf); first | refine Br.t ?_ | refine Br.f ?_ | refine ⟨rfl, ?_⟩)
        conv => whnf
        refine CallW.mono (hs.pure _ rfl rfl) ?_
        rintro r st' ⟨rfl, rfl⟩
        have cf := first_ok p hp _ (hbd (i + 1) hil)
        have hm1 : metAt p l (i + 1) = (firstR (touches p (runC p cfg0 (l.take (i + 1))))).isSome := rfl
        have ei : IntKind.i64.wrap ((i : Int) + 1) = ((i + 1 : Nat) : Int) := i64_id (by omega) (by omega)
        rw [run_snoc p cfg0 l i _ he] at cf hm1
        cases hf : firstR (touches p (stepC p (runC p cfg0 (l.take i)) l[i].1 l[i].2)) with
        | some xy =>
          obtain ⟨x, y⟩ := xy
          rw [hf] at cf hm1
          repeat ((conv => whnf); first | refine Br.t ?_ | refine Br.f ?_ | refine ⟨rfl, ?_⟩)
          conv => whnf
          refine zx_ok (own := own0) (cxR_good _ _) y0_ok hG0 (Nat.zero_le _) _ _ _ _ ?_
          repeat ((conv => whnf); first | refine Br.t ?_ | refine Br.f ?_ | refine ⟨rfl, ?_⟩)
          conv => whnf
          refine zx_ok (own := own0) (cxR_good _ _) y0_ok hG0 (Nat.zero_le _) _ _ _ _ ?_
          repeat ((conv => whnf); first | refine Br.t ?_ | refine Br.f ?_ | refine ⟨rfl, ?_⟩)
          conv => whnf
          refine CallW.mono (cf.pure _ rfl rfl) ?_
          rintro r st' ⟨rfl, rfl⟩
          repeat ((conv => whnf); first | refine Br.t ?_ | refine Br.f ?_ | refine ⟨rfl, ?_⟩)
          conv => whnf
          exact .inr ⟨rfl, i + 1, _, meets_some hil hm1 (fun j hj => him j (by omega)), by rw [← ei]; rfl⟩
        | none =>
          rw [hf] at cf hm1
          repeat ((conv => whnf); first | refine Br.t ?_ | refine Br.f ?_ | refine ⟨rfl, ?_⟩)
          conv => whnf
          refine zx_ok (own := own0) (cxR_good _ _) y0_ok hG0 (Nat.zero_le _) _ _ _ _ ?_
          repeat ((conv => whnf); first | refine Br.t ?_ | refine Br.f ?_ | refine ⟨rfl, ?_⟩)
          conv => whnf
          refine zx_ok (own := own0) (cxR_good _ _) y0_ok hG0 (Nat.zero_le _) _ _ _ _ ?_
          repeat ((conv => whnf); first | refine Br.t ?_ | refine Br.f ?_ | refine ⟨rfl, ?_⟩)
          conv => whnf
          refine CallW.mono (cf.pure _ rfl rfl) ?_
          rintro r st' ⟨rfl, rfl⟩
          repeat ((conv => whnf); first | refine Br.t ?_ | refine Br.f ?_ | refine ⟨rfl, ?_⟩)
          conv => whnf
          refine ⟨i + 1, rfl, ⟨hil, fun j hj => ?_⟩, by omega, ?_⟩
          · by_cases hji : j = i + 1
            · subst hji; exact hm1
            · exact him j (by omega)
          rw [run_snoc p cfg0 l i _ he]
          exact Le.back (fun _ => 0) (by intro id hid; rfl) (Nat.le_succ 5) rfl (by exact meB_cl p l _ _ _ _) (by simp [leS, alS, mkS, V.up, V.up.upAll]; exact ei) rfl
      · have hii : ¬ (i : Int) < l.length := by omega
        refine Br.mk (fun k => absurd k (by simp; omega)) (fun _ => ?_)
        repeat ((conv => whnf); first | refine Br.t ?_ | refine Br.f ?_ | refine ⟨rfl, ?_⟩)
        conv => whnf
        exact .inl ⟨rfl, meets_none (fun j hj => him j (by omega)), _, rfl⟩
  · rintro st' p' (⟨rfl, hm, rest, rfl⟩ | ⟨rfl, i, rest, hm, rfl⟩)
    · rw [hm]
      repeat ((conv => whnf); first | refine Br.t ?_ | refine Br.f ?_ | refine ⟨rfl, ?_⟩)
      conv => whnf
      exact ⟨⟨rfl, rfl⟩, Nat.zero_le _, rfl, (fun _ h => nomatch h), rfl, rfl⟩
    · rw [hm]
      repeat ((conv => whnf); first | refine Br.t ?_ | refine Br.f ?_ | refine ⟨rfl, ?_⟩)
      conv => whnf
      exact ⟨⟨rfl, rfl⟩, Nat.zero_le _, rfl, (fun _ h => nomatch h), rfl, rfl⟩
set_option maxHeartbeats 4000000 in
theorem meetsZ_ok (p : Pg) (hp0 : okPg p) (h0 : (chk p).2.2 ≠ 0) (l : List (Int × Bool)) : CallW Try.prog G0 54 [pgV p, .i (.sl (l.map encP))] [] (fun r st' => r = .tup [.i (.int .i64 0), .i (.bool false)] ∧ st' = []) := by
  refine call_of_bodyZ 0 (Nat.le_refl _) Try.func54 rfl (fun a w => Try.call54 a w) (zx_ok (own := own0) cx0_good y0_ok hG0 (Nat.zero_le _) _ _ _ _ ?_)
  have c0 := start_ok p hp0
  have es : startC p = cfgZ := by unfold startC; rw [if_neg h0]
  rw [es] at c0
  repeat ((conv => whnf); first | refine Br.t ?_ | refine Br.f ?_ | refine ⟨rfl, ?_⟩)
  conv => whnf
  refine CallW.mono (along_in p l _) ?_
  rintro r st' ⟨rfl, rfl⟩
  repeat ((conv => whnf); first | refine Br.t ?_ | refine Br.f ?_ | refine ⟨rfl, ?_⟩)
  conv => whnf
  refine zrange (Kit := fun st' p' => p' = none ∧ st' = meB p l 0 false ++ [cfgB cfgZ]) hG0 rfl (fun a w => Try.call91 a w) ?_ ?_
  · rintro l' ⟨q1, q2, q3, q4, q5, q6, q7, q8⟩ rfl rfl rfl
    refine it_of_body Try.func91 rfl rfl (zx_ok (own := own0) (cxIt_good _ _ _ _) (yit_ok (G := G0) _ _ _ _) hG0 (Nat.le_refl _) _ _ _ _ ?_)
    repeat ((conv => whnf); first | refine Br.t ?_ | refine Br.f ?_ | refine ⟨rfl, ?_⟩)
    conv => whnf
    refine CallW.mono (c0.pure _ rfl rfl) ?_
    rintro r st' ⟨rfl, rfl⟩
    repeat ((conv => whnf); first | refine Br.t ?_ | refine Br.f ?_ | refine ⟨rfl, ?_⟩)
    conv => whnf
    have hb : ((chk p).2.2 != 0) = true := by simpa using h0
    rw [hb]
    repeat ((conv => whnf); first | refine Br.t ?_ | refine Br.f ?_ | refine ⟨rfl, ?_⟩)
    conv => whnf
    rfl
  · rintro st' p' ⟨rfl, rfl⟩
    repeat ((conv => whnf); first | refine Br.t ?_ | refine Br.f ?_ | refine ⟨rfl, ?_⟩)
    conv => whnf
    exact ⟨⟨rfl, rfl⟩, Nat.zero_le _, rfl, (fun _ h => nomatch h), rfl, rfl⟩
end Go.Proofs.Ytiikndppckjmhaa.Am

/- Contract: a config, as the document has it. -/
namespace Go.Proofs.Ytiikndppckjmhaa.Am
set_option autoImplicit false
set_option linter.unusedVariables false
set_option linter.unusedSimpArgs false
set_option maxRecDepth 10000
set_option pp.maxSteps 3000
set_option pp.proofs false
def stkI (t : Th) : List I := [.sl (t.stk.map encFr)]
def slI (t : Th) : List I := sl8 t.sl
def rcV (c : Cfg) : V := .agg (.i (.sl (c.ths.map stkI)) :: .i (.sl (c.ths.map slI)) :: (ow16 c.own).map .i)
def plZ : Ob := .row 0 18 false [.nils :: .nils :: (ow16 []).map .i]
def plB (c : Cfg) (t : Nat) : List Ob := [cfgB c, plZ, .row 0 18 false [.ref 3 1 0 t :: .ref 4 1 0 t :: (ow16 c.own).map .i], .row 1 1 false (lift ((c.ths.take t).map stkI)), .row 1 8 false (lift ((c.ths.take t).map slI))]
def plS (t : Nat) (x : List (Nat × V)) : List V := mkS 64 ([(1, .ptr 0 0 0 0), (2, .ptr 1 0 0 0), (3, .ptr 2 0 0 0), (4, .i (.int .i64 t))] ++ x)
theorem plB_cl (c : Cfg) (t : Nat) : ∀ o ∈ plB c t, o.cl 5 := by
  intro o ho
  simp only [plB, List.mem_cons, List.not_mem_nil, or_false] at ho
  rcases ho with rfl | rfl | rfl | rfl | rfl
  · exact cfgB_cl c _
  · intro cs hcs; simp only [List.mem_singleton] at hcs; subst hcs; rfl
  · intro cs hcs; simp only [List.mem_singleton] at hcs; subst hcs; rfl
  · exact row_cl 1 1 _ _ _ (List.mem_singleton.2 rfl)
  · exact row_cl 1 8 _ _ _ (List.mem_singleton.2 rfl)
def frR (L : List (Nat × Nat)) : Ob := .row 1 2 false (lift (L.map encFr))
theorem plF_cl (c : Cfg) (t : Nat) (L : List (Nat × Nat)) (m : Nat) (hm : 5 ≤ m) : ∀ o ∈ plB c t ++ [frR L], o.cl m := by
  intro o ho
  simp only [plB, List.cons_append, List.nil_append, List.mem_cons, List.not_mem_nil, or_false] at ho
  rcases ho with rfl | rfl | rfl | rfl | rfl | rfl
  · exact cfgB_cl c _
  · intro cs hcs; simp only [List.mem_singleton] at hcs; subst hcs; rfl
  · intro cs hcs; simp only [List.mem_singleton] at hcs; subst hcs
    simp [V.cl, V.cl.clAll, ow16]; omega
  · exact row_cl 1 1 _ _ _ (List.mem_singleton.2 rfl)
  · exact row_cl 1 8 _ _ _ (List.mem_singleton.2 rfl)
  · exact row_cl 1 2 _ _ _ (List.mem_singleton.2 rfl)
set_option maxHeartbeats 1000000 in
theorem plain_in (c : Cfg) (t : Nat) (th : Th) (hth : c.ths[t]? = some th) (hn : c.ths.length ≤ 8) (hh : th.stk.length ≤ 16) :
    W Try.prog G0 0 (.loop (lp Try.f31 1)) (fun e s' => e = .exit 2 ∧ s' = ⟨plS t [(5, .i (.sl (th.stk.map encFr)))], plB c t⟩) ⟨plS t [(5, .ref 5 1 0 (th.stk.take 0).length), (6, .i (.int .i64 0))], plB c t ++ [frR (th.stk.take 0)]⟩ := by
  have htl := lt_some hth
  refine W.weak (loop_ok (α := Nat) (fun j => ⟨plS t [(5, .ref 5 1 0 (th.stk.take j).length), (6, .i (.int .i64 j))], plB c t ++ [frR (th.stk.take j)]⟩)
    (fun j => j ≤ th.stk.length) (fun j => th.stk.length - j) 0 (Nat.zero_le _) (Le.refl _ _) (fun j hj => wpx_ok (own := own0) _ _ _ ?_))
  have hlj : (th.stk.take j).length = j := by simp; omega
  repeat ((conv => whnf); first | refine Br.t ?_ | refine Br.f ?_ | refine ⟨rfl, ?_⟩)
  conv => whnf
  rw [encTh_get hth]
  refine ⟨⟨by omega, by simp; omega, rfl⟩, ?_⟩
  repeat ((conv => whnf); first | refine Br.t ?_ | refine Br.f ?_ | refine ⟨rfl, ?_⟩)
  conv => whnf
  refine Br.mk (fun g => ?_) (fun g => ?_)
  · have g : j < th.stk.length := by simpa using g
    obtain ⟨x, hx⟩ : ∃ x, x = th.stk[j] := ⟨_, rfl⟩
    have ex : (th.stk.map encFr).getD (j : Int).toNat [] = encFr x := by rw [hx]; exact getD_enc g
    have et : th.stk.take (j + 1) = th.stk.take j ++ [x] := by rw [hx]; simp
    repeat ((conv => whnf); first | refine Br.t ?_ | refine Br.f ?_ | refine ⟨rfl, ?_⟩)
    conv => whnf
    rw [encTh_get hth]
    refine ⟨⟨by omega, by simp; omega, rfl⟩, ?_⟩
    repeat ((conv => whnf); first | refine Br.t ?_ | refine Br.f ?_ | refine ⟨rfl, ?_⟩)
    conv => whnf
    rw [ex]
    refine ⟨⟨by omega, by simp; omega, rfl⟩, ?_⟩
    repeat ((conv => whnf); first | refine Br.t ?_ | refine Br.f ?_ | refine ⟨rfl, ?_⟩)
    conv => whnf
    refine ⟨⟨by intro cs hcs; simp at hcs; subst hcs; rfl, by simp [lift], by rw [hlj]; show (j + 1) * 16 ≤ _; omega, len_mx (by rw [hlj]; simp [lift]; omega)⟩, ?_⟩
    repeat ((conv => whnf); first | refine Br.t ?_ | refine Br.f ?_ | refine ⟨rfl, ?_⟩)
    conv => whnf
    refine ⟨j + 1, by omega, by omega, Le.back (fun id => if id = 5 then 1 else 0) (by intro id hid; simp at hid) (by simp [plB]) rfl (plF_cl c t _ _ (by simp [plB])) ?_ ?_⟩
    · rw [et]
      simp [leS, mkS, plS, V.up, lift]
      exact i64_id (by omega) (by omega)
    · rw [et]
      simp only [upSt, Ob.up, map_up_lift, List.map_append, lift_app, plB, frR, List.cons_append, List.nil_append]
      rfl
  · have g : j = th.stk.length := by simp at g; omega
    subst g
    repeat ((conv => whnf); first | refine Br.t ?_ | refine Br.f ?_ | refine ⟨rfl, ?_⟩)
    conv => whnf
    refine ⟨_, (Le.data 5 1 2 (th.stk.map encFr) (s := ⟨plS t [(5, .i (.sl (th.stk.map encFr)))], plB c t ++ [.dead]⟩) ?_ ?_ ?_).trans (Le.short (Nat.zero_le _) rfl (plB_cl c t)), rfl, rfl⟩
    · rw [List.take_length]; rfl
    · simp [leS, mkS, plS, V.dat]
      exact List.take_of_length_le (by simp)
    · simp only [plB, List.cons_append, List.nil_append, List.map_cons, List.map_nil, Ob.dat, dat_lift']
      rfl
def plE (c : Cfg) : List Ob := [cfgB c, plZ, .row 0 18 false [.i (.sl (c.ths.map stkI)) :: .i (.sl (c.ths.map slI)) :: (ow16 c.own).map .i]]
theorem plE_cl (c : Cfg) : ∀ o ∈ plE c, o.cl 3 := by
  intro o ho
  simp only [plE, List.mem_cons, List.not_mem_nil, or_false] at ho
  rcases ho with rfl | rfl | rfl
  · exact cfgB_cl c _
  · intro cs hcs; simp only [List.mem_singleton] at hcs; subst hcs; rfl
  · intro cs hcs; simp only [List.mem_singleton] at hcs; subst hcs; rfl
set_option maxHeartbeats 1000000 in
theorem plain_out (p : Pg) (hp : PgOk p) (c : Cfg) (hc : OkC p c) :
    W Try.prog G0 0 (.loop (lp Try.f31 0)) (fun e s' => e = .exit 0 ∧ s' = ⟨mkS 64 [(2, .ptr 1 0 0 0), (3, .ptr 2 0 0 0)], plE c⟩) ⟨plS 0 [], plB c 0⟩ := by
  have hn := hc.n.2
  refine W.weak (loop_ok (α := Nat) (fun t => ⟨plS t [], plB c t⟩)
    (fun t => t ≤ c.ths.length) (fun t => c.ths.length - t) 0 (Nat.zero_le _) (Le.refl _ _) (fun t ht => wpx_ok (own := own0) _ _ _ ?_))
  repeat ((conv => whnf); first | refine Br.t ?_ | refine Br.f ?_ | refine ⟨rfl, ?_⟩)
  conv => whnf
  refine Br.mk (fun g => ?_) (fun g => ?_)
  · have g : t < c.ths.length := by simpa using g
    obtain ⟨th, hth⟩ : ∃ th, c.ths[t]? = some th := ⟨_, List.getElem?_eq_getElem g⟩
    have hh := (hc.th th (List.mem_of_getElem? hth)).h
    have hpn := hp.n.2
    have htk : (c.ths.take t).length = t := by simp; omega
    have et : c.ths.take (t + 1) = c.ths.take t ++ [th] := by
      rw [List.take_succ_eq_append_getElem g]; congr 2
      exact Option.some.inj ((List.getElem?_eq_getElem g).symm.trans hth)
    repeat ((conv => whnf); first | refine Br.t ?_ | refine Br.f ?_ | refine ⟨rfl, ?_⟩)
    conv => whnf
    refine W.le ((Le.nil (n := 0) 5 2 rfl).trans (Le.slots (sl' := plS t [(5, .ref 5 1 0 (th.stk.take 0).length), (6, .i (.int .i64 0))]) (by simp [leS, mkS, plS, plB]))) (W.mono (plain_in c t th hth hn (by omega)) ?_)
    rintro e s' ⟨rfl, rfl⟩
    repeat ((conv => whnf); first | refine Br.t ?_ | refine Br.f ?_ | refine ⟨rfl, ?_⟩)
    conv => whnf
    refine ⟨⟨by intro cs hcs; simp at hcs; subst hcs; rfl, by simp [lift]; omega, by show (t + 1) * 24 ≤ _; omega, len_mx (by simp [lift]; omega)⟩, ?_⟩
    repeat ((conv => whnf); first | refine Br.t ?_ | refine Br.f ?_ | refine ⟨rfl, ?_⟩)
    conv => whnf
    refine draw_ok (own := own0) [9, 11] [] [] rfl (by kernel_rfl) (Nat.zero_le _) ?_
    repeat ((conv => whnf); first | refine Br.t ?_ | refine Br.f ?_ | refine ⟨rfl, ?_⟩)
    conv => whnf
    rw [encTh_get hth]
    refine ⟨⟨by omega, by simp; omega, rfl⟩, ?_⟩
    repeat ((conv => whnf); first | refine Br.t ?_ | refine Br.f ?_ | refine ⟨rfl, ?_⟩)
    conv => whnf
    refine ⟨⟨by intro cs hcs; simp at hcs; subst hcs; rfl, by simp [lift]; omega, by show (t + 1) * 64 ≤ _; omega, len_mx (by simp [lift]; omega)⟩, ?_⟩
    repeat ((conv => whnf); first | refine Br.t ?_ | refine Br.f ?_ | refine ⟨rfl, ?_⟩)
    conv => whnf
    refine ⟨by repeat ((conv => whnf); first | exact trivial | refine ⟨rfl, ?_⟩), trivial, ?_⟩
    conv => whnf
    repeat ((conv => whnf); first | refine Br.t ?_ | refine Br.f ?_ | refine ⟨rfl, ?_⟩)
    conv => whnf
    refine ⟨t + 1, by omega, by omega, Le.back (fun id => if id = 3 ∨ id = 4 then 1 else 0) (by intro id hid; simp at hid) (by simp [plB]) rfl (plB_cl c _) ?_ ?_⟩
    · simp [leS, mkS, plS, V.up]
      exact i64_id (by omega) (by omega)
    · rw [plB, et]
      simp only [upSt, Ob.up, map_up_lift, List.map_append, lift_app]
      rfl
  · have g : t = c.ths.length := by simp at g; omega
    subst g
    have e1 : (c.ths.take c.ths.length) = c.ths := List.take_length
    repeat ((conv => whnf); first | refine Br.t ?_ | refine Br.f ?_ | refine ⟨rfl, ?_⟩)
    conv => whnf
    refine ⟨_, (Le.data 3 1 1 (c.ths.map stkI) (s := ⟨plS c.ths.length [], [cfgB c, plZ, .row 0 18 false [.i (.sl (c.ths.map stkI)) :: .ref 4 1 0 c.ths.length :: (ow16 c.own).map .i], .dead, .row 1 8 false (lift (c.ths.map slI))]⟩) (by rw [e1]; rfl) ?_ ?_).trans
      ((Le.data 4 1 8 (c.ths.map slI) (s := ⟨plS c.ths.length [], plE c ++ [.dead, .dead]⟩) rfl ?_ ?_).trans ((Le.slots (sl' := mkS 64 [(2, .ptr 1 0 0 0), (3, .ptr 2 0 0 0)]) (by simp [leS, mkS, plS])).trans (Le.short (Nat.zero_le _) rfl (plE_cl c)))), rfl, rfl⟩
    · simp [leS, mkS, plS, V.dat]
    · rw [e1]
      simp only [plB, List.map_cons, List.map_nil, Ob.dat, dat_lift']
      rw [show V.i (I.sl (c.ths.map stkI)) = V.i (I.sl ((c.ths.map stkI).take c.ths.length)) by rw [List.take_of_length_le (by simp)]]
      rfl
    · simp [leS, mkS, plS, V.dat]
    · simp only [plE, List.cons_append, List.nil_append, List.map_cons, List.map_nil, Ob.dat, dat_lift']
      rw [show V.i (I.sl (c.ths.map slI)) = V.i (I.sl ((c.ths.map slI).take c.ths.length)) by rw [List.take_of_length_le (by simp)]]
      rfl
set_option maxHeartbeats 1000000 in
theorem plain_ok (p : Pg) (hp : PgOk p) (c : Cfg) (hc : OkC p c) : CallW Try.prog G0 31 [cfgV c] [] (fun r st' => r = rcV c ∧ st' = []) := by
  refine call_of_bodyF 0 (Nat.le_refl _) Try.func31 rfl (fun a w => Try.call31 a w) (wpx_ok (own := own0) _ _ _ ?_)
  repeat ((conv => whnf); first | refine Br.t ?_ | refine Br.f ?_ | refine ⟨rfl, ?_⟩)
  conv => whnf
  refine W.le (((Le.nilCell (n := 0) 2 0 0 1 rfl rfl rfl).trans (Le.nilCell (n := 0) 2 0 1 8 rfl rfl rfl)).trans (Le.slotsE (sl' := plS 0 []) (st' := plB c 0) (by simp [leS, mkS, plS]) ?_)) (W.mono (plain_out p hp c hc) ?_)
  · rfl
  rintro e s' ⟨rfl, rfl⟩
  repeat ((conv => whnf); first | refine Br.t ?_ | refine Br.f ?_ | refine ⟨rfl, ?_⟩)
  conv => whnf
  refine fin (target := []) rfl (Nat.zero_le _) (by simp) rfl rfl
end Go.Proofs.Ytiikndppckjmhaa.Am

/- Contract: the document's sameness of a config with itself. -/
namespace Go.Proofs.Ytiikndppckjmhaa.Am
set_option autoImplicit false
set_option linter.unusedVariables false
set_option linter.unusedSimpArgs false
set_option maxRecDepth 10000
set_option pp.maxSteps 3000
set_option pp.proofs false
def rcB (c : Cfg) : Ob := .row 0 18 false [.i (.sl (c.ths.map stkI)) :: .i (.sl (c.ths.map slI)) :: (ow16 c.own).map .i]
theorem stkI_get {c : Cfg} {t : Nat} {th : Th} (h : c.ths[t]? = some th) : (c.ths.map stkI).getD ((t : Nat) : Int).toNat [] = stkI th := by
  rw [Int.toNat_natCast]; simp [List.getD_eq_getElem?_getD, h]
theorem slI_get {c : Cfg} {t : Nat} {th : Th} (h : c.ths[t]? = some th) : (c.ths.map slI).getD ((t : Nat) : Int).toNat [] = sl8 th.sl := by
  rw [Int.toNat_natCast]; simp [List.getD_eq_getElem?_getD, h, slI]
def rsS (t : Nat) (x : List (Nat × V)) : List V := mkS 81 ([(2, .ptr 0 0 0 0), (3, .ptr 1 0 0 0), (5, .i (.int .i64 t))] ++ x)
set_option maxHeartbeats 1000000 in
theorem rsame_in (c : Cfg) (t : Nat) (th : Th) (hth : c.ths[t]? = some th) (hn : c.ths.length ≤ 8) (hh : th.stk.length ≤ 16) :
    W Try.prog G0 0 (.loop (lp Try.f30 1)) (fun e s' => e = .exit 2 ∧ s' = ⟨rsS t [], [rcB c, rcB c]⟩) ⟨rsS t [(6, .i (.int .i64 0))], [rcB c, rcB c]⟩ := by
  have htl := lt_some hth
  refine W.weak (loop_ok (α := Nat) (fun j => ⟨rsS t [(6, .i (.int .i64 j))], [rcB c, rcB c]⟩)
    (fun j => j ≤ th.stk.length) (fun j => th.stk.length - j) 0 (Nat.zero_le _) (Le.refl _ _) (fun j hj => wpx_ok (own := own0) _ _ _ ?_))
  repeat ((conv => whnf); first | refine Br.t ?_ | refine Br.f ?_ | refine ⟨rfl, ?_⟩)
  conv => whnf
  rw [stkI_get hth]
  refine ⟨⟨by omega, by simp; omega, rfl⟩, ?_⟩
  repeat ((conv => whnf); first | refine Br.t ?_ | refine Br.f ?_ | refine ⟨rfl, ?_⟩)
  conv => whnf
  refine Br.mk (fun g => ?_) (fun g => ?_)
  · have g : j < th.stk.length := by simpa using g
    obtain ⟨x, hx⟩ : ∃ x, x = th.stk[j] := ⟨_, rfl⟩
    have ex : (th.stk.map encFr).getD (j : Int).toNat [] = encFr x := by rw [hx]; exact getD_enc g
    repeat ((conv => whnf); first | refine Br.t ?_ | refine Br.f ?_ | refine ⟨rfl, ?_⟩)
    conv => whnf
    refine draw_ok (own := own0) [] [] [] rfl (by kernel_rfl) (Nat.zero_le _) ?_
    repeat ((conv => whnf); first | refine Br.t ?_ | refine Br.f ?_ | refine ⟨rfl, ?_⟩)
    conv => whnf
    rw [stkI_get hth]
    refine ⟨⟨by omega, by simp; omega, rfl⟩, ?_⟩
    repeat ((conv => whnf); first | refine Br.t ?_ | refine Br.f ?_ | refine ⟨rfl, ?_⟩)
    conv => whnf
    rw [ex]
    refine ⟨⟨by omega, by simp; omega, rfl⟩, ?_⟩
    repeat ((conv => whnf); first | refine Br.t ?_ | refine Br.f ?_ | refine ⟨rfl, ?_⟩)
    conv => whnf
    rw [stkI_get hth]
    refine ⟨⟨by omega, by simp; omega, rfl⟩, ?_⟩
    repeat ((conv => whnf); first | refine Br.t ?_ | refine Br.f ?_ | refine ⟨rfl, ?_⟩)
    conv => whnf
    rw [ex]
    refine ⟨⟨by omega, by simp; omega, rfl⟩, ?_⟩
    repeat ((conv => whnf); first | refine Br.t ?_ | refine Br.f ?_ | refine ⟨rfl, ?_⟩)
    conv => whnf
    refine ⟨by kernel_rfl, ?_⟩
    repeat ((conv => whnf); first | refine Br.t ?_ | refine Br.f ?_ | refine ⟨rfl, ?_⟩)
    conv => whnf
    refine ⟨by repeat ((conv => whnf); first | exact trivial | refine ⟨rfl, ?_⟩), trivial, ?_⟩
    conv => whnf
    refine Br.mk (fun h => by simp at h) (fun _ => ?_)
    repeat ((conv => whnf); first | refine Br.t ?_ | refine Br.f ?_ | refine ⟨rfl, ?_⟩)
    conv => whnf
    refine ⟨j + 1, by omega, by omega, Le.slots ?_⟩
    simp [leS, mkS, rsS]
    exact i64_id (by omega) (by omega)
  · repeat ((conv => whnf); first | refine Br.t ?_ | refine Br.f ?_ | refine ⟨rfl, ?_⟩)
    conv => whnf
    exact ⟨_, Le.slots (by simp [leS, mkS, rsS]), rfl, rfl⟩
set_option maxHeartbeats 1000000 in
theorem rsame_refl (p : Pg) (hp : PgOk p) (c : Cfg) (hc : OkC p c) : CallW Try.prog G0 30 [rcV c, rcV c] [] (fun r st' => r = .i (.bool true) ∧ st' = []) := by
  refine call_of_bodyF 0 (Nat.le_refl _) Try.func30 rfl (fun a w => Try.call30 a w) (wpx_ok (own := own0) _ _ _ ?_)
  have hn := hc.n.2
  repeat ((conv => whnf); first | refine Br.t ?_ | refine Br.f ?_ | refine ⟨rfl, ?_⟩)
  conv => whnf
  refine Br.mk (fun h => by simp at h) (fun _ => ?_)
  repeat ((conv => whnf); first | refine Br.t ?_ | refine Br.f ?_ | refine ⟨rfl, ?_⟩)
  conv => whnf
  refine Br.mk (fun h => by simp at h) (fun _ => ?_)
  repeat ((conv => whnf); first | refine Br.t ?_ | refine Br.f ?_ | refine ⟨rfl, ?_⟩)
  conv => whnf
  refine loop_ok (α := Nat) (fun t => ⟨rsS t [], [rcB c, rcB c]⟩)
    (fun t => t ≤ c.ths.length) (fun t => c.ths.length - t) 0 (Nat.zero_le _) (Le.slots (by simp [leS, mkS, rsS])) (fun t ht => wpx_ok (own := own0) _ _ _ ?_)
  repeat ((conv => whnf); first | refine Br.t ?_ | refine Br.f ?_ | refine ⟨rfl, ?_⟩)
  conv => whnf
  refine Br.mk (fun g => ?_) (fun g => ?_)
  · have g : t < c.ths.length := by simpa using g
    obtain ⟨th, hth⟩ : ∃ th, c.ths[t]? = some th := ⟨_, List.getElem?_eq_getElem g⟩
    have hh := (hc.th th (List.mem_of_getElem? hth)).h
    have hpn := hp.n.2
    repeat ((conv => whnf); first | refine Br.t ?_ | refine Br.f ?_ | refine ⟨rfl, ?_⟩)
    conv => whnf
    refine draw_ok (own := own0) [] [] [] rfl (by kernel_rfl) (Nat.zero_le _) ?_
    repeat ((conv => whnf); first | refine Br.t ?_ | refine Br.f ?_ | refine ⟨rfl, ?_⟩)
    conv => whnf
    rw [slI_get hth]
    refine ⟨⟨by omega, by simp; omega, rfl⟩, ?_⟩
    repeat ((conv => whnf); first | refine Br.t ?_ | refine Br.f ?_ | refine ⟨rfl, ?_⟩)
    conv => whnf
    rw [slI_get hth]
    refine ⟨⟨by omega, by simp; omega, rfl⟩, ?_⟩
    repeat ((conv => whnf); first | refine Br.t ?_ | refine Br.f ?_ | refine ⟨rfl, ?_⟩)
    conv => whnf
    refine Br.mk (fun h => by simp at h) (fun _ => ?_)
    repeat ((conv => whnf); first | refine Br.t ?_ | refine Br.f ?_ | refine ⟨rfl, ?_⟩)
    conv => whnf
    rw [stkI_get hth]
    refine ⟨⟨by omega, by simp; omega, rfl⟩, ?_⟩
    repeat ((conv => whnf); first | refine Br.t ?_ | refine Br.f ?_ | refine ⟨rfl, ?_⟩)
    conv => whnf
    rw [stkI_get hth]
    refine ⟨⟨by omega, by simp; omega, rfl⟩, ?_⟩
    repeat ((conv => whnf); first | refine Br.t ?_ | refine Br.f ?_ | refine ⟨rfl, ?_⟩)
    conv => whnf
    refine ⟨by repeat ((conv => whnf); first | exact trivial | refine ⟨rfl, ?_⟩), trivial, ?_⟩
    conv => whnf
    refine Br.mk (fun h => by simp at h) (fun _ => ?_)
    repeat ((conv => whnf); first | refine Br.t ?_ | refine Br.f ?_ | refine ⟨rfl, ?_⟩)
    conv => whnf
    refine W.le (s' := ⟨rsS t [(6, .i (.int .i64 0))], [rcB c, rcB c]⟩) (Le.slots (by simp [leS, mkS, rsS])) (W.mono (rsame_in c t th hth hn (by omega)) ?_)
    rintro e s' ⟨rfl, rfl⟩
    repeat ((conv => whnf); first | refine Br.t ?_ | refine Br.f ?_ | refine ⟨rfl, ?_⟩)
    conv => whnf
    refine ⟨t + 1, by omega, by omega, Le.slots ?_⟩
    simp [leS, mkS, rsS]
    exact i64_id (by omega) (by omega)
  · repeat ((conv => whnf); first | refine Br.t ?_ | refine Br.f ?_ | refine ⟨rfl, ?_⟩)
    conv => whnf
    refine fin (target := []) rfl (Nat.zero_le _) (by simp) rfl rfl
end Go.Proofs.Ytiikndppckjmhaa.Am

/- Contract: a step of a thread changes nothing of another one. -/
namespace Go.Proofs.Ytiikndppckjmhaa.Am
set_option autoImplicit false
set_option linter.unusedVariables false
set_option linter.unusedSimpArgs false
set_option maxRecDepth 10000
set_option pp.maxSteps 3000
set_option pp.proofs false
theorem step_no {p : Pg} {c : Cfg} (who : Int) (way : Bool) (h : enab p c who = false) : stepC p c who way = c := by
  unfold stepC; rw [if_neg (by rw [h]; simp)]
theorem own_th {p : Pg} {c : Cfg} (who : Int) (way : Bool) {t : Nat} (ht : t < c.ths.length) (hne : (t : Int) ≠ who) : (stepC p c who way).ths[t]? = c.ths[t]? := by
  unfold stepC
  split
  · rename_i he
    cases hth : thAt c who with
    | none => rfl
    | some th =>
      simp only
      have hlive : lives c who = true := by
        unfold enab at he
        simp only [Bool.and_eq_true] at he
        exact he.1
      have hw : 0 ≤ who := by
        refine Classical.byContradiction fun h => ?_
        rw [lives_none (by omega)] at hlive; cases hlive
      exact doC_ths ht (by omega)
  · rfl
theorem own_held {p : Pg} {c : Cfg} (hp : PgOk p) (hc : OkC p c) (who : Int) (way : Bool) {t : Nat} (hne : (t : Int) ≠ who) : held (stepC p c who way) (t : Int) = held c (t : Int) := by
  apply Nat.eq_of_testBit_eq
  intro i
  have h1 := grows hp hc who way t (fun h => hne h.1) i
  have h2 := shrinks hp hc who way t (fun h => hne h.1) i
  cases ha : (held (stepC p c who way) (t : Int)).testBit i <;> cases hb : (held c (t : Int)).testBit i
  · rfl
  · rw [h2 hb] at ha; cases ha
  · rw [h1 ha] at hb; cases hb
  · rfl
def soS (l : List (Int × Bool)) (i : Nat) (x : List (Nat × V)) : List V := mkS 153 ([(1, .i (.sl (l.map encP))), (2, .ptr 0 0 0 0), (5, .ptr 1 0 0 0), (7, .i (.int .i64 i))] ++ x)
def soX (t : Nat) : List (Nat × V) := [(8, .ptr 2 0 0 0), (10, .ptr 3 0 0 0), (11, .ptr 4 0 0 0), (12, .i (.int .i64 t))]
def soB (p : Pg) (c d : Cfg) : List Ob := [pgB p, cfgB c, rcB c, cfgB d, rcB d]
set_option maxHeartbeats 1000000 in
theorem own_k (p : Pg) (c d : Cfg) (l : List (Int × Bool)) (i t : Nat) (th : Th) (hth : c.ths[t]? = some th) (htd : d.ths[t]? = some th) (hn : c.ths.length ≤ 8) (hnd : d.ths.length ≤ 8) (hh : th.stk.length ≤ 16) :
    W Try.prog G0 0 (.loop (lp Try.f13 2)) (fun e s' => e = .exit 4 ∧ s' = ⟨soS l i (soX t), soB p c d⟩) ⟨soS l i (soX t ++ [(13, .i (.int .i64 0))]), soB p c d⟩ := by
  have htl := lt_some hth
  have htl2 := lt_some htd
  refine W.weak (loop_ok (α := Nat) (fun j => ⟨soS l i (soX t ++ [(13, .i (.int .i64 j))]), soB p c d⟩)
    (fun j => j ≤ th.stk.length) (fun j => th.stk.length - j) 0 (Nat.zero_le _) (Le.refl _ _) (fun j hj => wpx_ok (own := own0) _ _ _ ?_))
  repeat ((conv => whnf); first | refine Br.t ?_ | refine Br.f ?_ | refine ⟨rfl, ?_⟩)
  conv => whnf
  rw [stkI_get hth]
  refine ⟨⟨by omega, by simp; omega, rfl⟩, ?_⟩
  repeat ((conv => whnf); first | refine Br.t ?_ | refine Br.f ?_ | refine ⟨rfl, ?_⟩)
  conv => whnf
  refine Br.mk (fun g => ?_) (fun g => ?_)
  · have g : j < th.stk.length := by simpa using g
    obtain ⟨x, hx⟩ : ∃ x, x = th.stk[j] := ⟨_, rfl⟩
    have ex : (th.stk.map encFr).getD (j : Int).toNat [] = encFr x := by rw [hx]; exact getD_enc g
    repeat ((conv => whnf); first | refine Br.t ?_ | refine Br.f ?_ | refine ⟨rfl, ?_⟩)
    conv => whnf
    refine draw_ok (own := own0) [] [] [] rfl (by kernel_rfl) (Nat.zero_le _) ?_
    repeat ((conv => whnf); first | refine Br.t ?_ | refine Br.f ?_ | refine ⟨rfl, ?_⟩)
    conv => whnf
    rw [stkI_get hth]
    refine ⟨⟨by omega, by simp; omega, rfl⟩, ?_⟩
    repeat ((conv => whnf); first | refine Br.t ?_ | refine Br.f ?_ | refine ⟨rfl, ?_⟩)
    conv => whnf
    rw [ex]
    refine ⟨⟨by omega, by simp; omega, rfl⟩, ?_⟩
    repeat ((conv => whnf); first | refine Br.t ?_ | refine Br.f ?_ | refine ⟨rfl, ?_⟩)
    conv => whnf
    rw [stkI_get htd]
    refine ⟨⟨by omega, by simp; omega, rfl⟩, ?_⟩
    repeat ((conv => whnf); first | refine Br.t ?_ | refine Br.f ?_ | refine ⟨rfl, ?_⟩)
    conv => whnf
    rw [ex]
    refine ⟨⟨by omega, by simp; omega, rfl⟩, ?_⟩
    repeat ((conv => whnf); first | refine Br.t ?_ | refine Br.f ?_ | refine ⟨rfl, ?_⟩)
    conv => whnf
    refine ⟨by kernel_rfl, ?_⟩
    repeat ((conv => whnf); first | refine Br.t ?_ | refine Br.f ?_ | refine ⟨rfl, ?_⟩)
    conv => whnf
    refine ⟨by repeat ((conv => whnf); first | exact trivial | refine ⟨rfl, ?_⟩), trivial, ?_⟩
    conv => whnf
    refine Br.mk (fun h => by simp at h) (fun _ => ?_)
    repeat ((conv => whnf); first | refine Br.t ?_ | refine Br.f ?_ | refine ⟨rfl, ?_⟩)
    conv => whnf
    refine ⟨j + 1, by omega, by omega, Le.slots ?_⟩
    simp [leS, mkS, soS, soX]
    exact i64_id (by omega) (by omega)
  · repeat ((conv => whnf); first | refine Br.t ?_ | refine Br.f ?_ | refine ⟨rfl, ?_⟩)
    conv => whnf
    exact ⟨_, Le.slots (by simp [leS, mkS, soS, soX]), rfl, rfl⟩


set_option maxHeartbeats 2000000 in
theorem own_t (p : Pg) (hp : PgOk p) (c : Cfg) (hc : OkC p c) (l : List (Int × Bool)) (hll : l.length ≤ 300) (i : Nat) (hi : i < l.length) (x : Int × Bool) (ex : (l.map encP).getD (i : Int).toNat [] = encP x) :
    W Try.prog G0 0 (.loop (lp Try.f13 1)) (fun e s' => e = .exit 2 ∧ s' = ⟨soS l i [(8, .ptr 2 0 0 0), (10, .ptr 3 0 0 0), (11, .ptr 4 0 0 0)], soB p c (stepC p c x.1 x.2)⟩)
      ⟨soS l i (soX 0), soB p c (stepC p c x.1 x.2)⟩ := by
  have hhe := fun t hne => own_held (t := t) hp hc x.1 x.2 hne
  have hth0 := fun t ht hne => own_th (p := p) (c := c) (t := t) x.1 x.2 ht hne
  have hd : OkC p (stepC p c x.1 x.2) := stepC_ok hp hc _ _
  obtain ⟨d, hdd⟩ : ∃ d, d = stepC p c x.1 x.2 := ⟨_, rfl⟩
  rw [← hdd] at hd ⊢
  simp only [← hdd] at hhe hth0
  have hdn := hd.n.2
  have hcn := hc.n.2
  have hpn := hp.n.2
  refine W.weak (loop_ok (α := Nat) (fun t => ⟨soS l i (soX t), soB p c d⟩)
    (fun t => t ≤ c.ths.length) (fun t => c.ths.length - t) 0 (Nat.zero_le _) (Le.refl _ _) (fun t ht => wpx_ok (own := own0) _ _ _ ?_))
  repeat ((conv => whnf); first | refine Br.t ?_ | refine Br.f ?_ | refine ⟨rfl, ?_⟩)
  conv => whnf
  refine Br.mk (fun g => ?_) (fun g => ?_)
  · have g : t < c.ths.length := by simpa using g
    repeat ((conv => whnf); first | refine Br.t ?_ | refine Br.f ?_ | refine ⟨rfl, ?_⟩)
    conv => whnf
    rw [ex]
    refine ⟨⟨by omega, by simp; omega, rfl⟩, ?_⟩
    repeat ((conv => whnf); first | refine Br.t ?_ | refine Br.f ?_ | refine ⟨rfl, ?_⟩)
    conv => whnf
    refine Br.mk (fun hw => ?_) (fun hw => ?_)
    · repeat ((conv => whnf); first | refine Br.t ?_ | refine Br.f ?_ | refine ⟨rfl, ?_⟩)
      conv => whnf
      refine ⟨t + 1, by omega, by omega, Le.slots ?_⟩
      simp [leS, mkS, soS, soX]
      exact i64_id (by omega) (by omega)
    · have hne : (t : Int) ≠ x.1 := by simpa using hw
      obtain ⟨th, hth⟩ : ∃ th, c.ths[t]? = some th := ⟨_, List.getElem?_eq_getElem g⟩
      have htd : d.ths[t]? = some th := by rw [hth0 t g hne]; exact hth
      have htl2 := lt_some htd
      have hh := (hc.th th (List.mem_of_getElem? hth)).h
      have h1 := held_ok c (t : Int) (by omega)
      have h2 := held_ok d (t : Int) (by omega)
      rw [hhe t hne] at h2
      obtain ⟨u, hu⟩ : ∃ u, u = held c (t : Int) := ⟨_, rfl⟩
      rw [← hu] at h1 h2
      repeat ((conv => whnf); first | refine Br.t ?_ | refine Br.f ?_ | refine ⟨rfl, ?_⟩)
      conv => whnf
      refine draw_ok (own := own0) [] [] [(.i (.int .u32 (u : Nat)), soB p c d), (.i (.int .u32 (u : Nat)), soB p c d)] rfl (by kernel_rfl) (Nat.zero_le _) ?_
      repeat ((conv => whnf); first | refine Br.t ?_ | refine Br.f ?_ | refine ⟨rfl, ?_⟩)
      conv => whnf
      rw [stkI_get hth]
      refine ⟨⟨by omega, by simp; omega, rfl⟩, ?_⟩
      repeat ((conv => whnf); first | refine Br.t ?_ | refine Br.f ?_ | refine ⟨rfl, ?_⟩)
      conv => whnf
      rw [stkI_get htd]
      refine ⟨⟨by omega, by simp; omega, rfl⟩, ?_⟩
      repeat ((conv => whnf); first | refine Br.t ?_ | refine Br.f ?_ | refine ⟨rfl, ?_⟩)
      conv => whnf
      refine Br.mk (fun h => by simp at h) (fun _ => ?_)
      repeat ((conv => whnf); first | refine Br.t ?_ | refine Br.f ?_ | refine ⟨rfl, ?_⟩)
      conv => whnf
      rw [slI_get hth]
      refine ⟨⟨by omega, by simp; omega, rfl⟩, ?_⟩
      repeat ((conv => whnf); first | refine Br.t ?_ | refine Br.f ?_ | refine ⟨rfl, ?_⟩)
      conv => whnf
      rw [slI_get htd]
      refine ⟨⟨by omega, by simp; omega, rfl⟩, ?_⟩
      repeat ((conv => whnf); first | refine Br.t ?_ | refine Br.f ?_ | refine ⟨rfl, ?_⟩)
      conv => whnf
      refine Br.mk (fun h => by simp at h) (fun _ => ?_)
      repeat ((conv => whnf); first | refine Br.t ?_ | refine Br.f ?_ | refine ⟨rfl, ?_⟩)
      conv => whnf
      refine ⟨h1.pure _ rfl rfl, ?_⟩
      repeat ((conv => whnf); first | refine Br.t ?_ | refine Br.f ?_ | refine ⟨rfl, ?_⟩)
      conv => whnf
      refine ⟨h2.pure _ rfl rfl, ?_⟩
      repeat ((conv => whnf); first | refine Br.t ?_ | refine Br.f ?_ | refine ⟨rfl, ?_⟩)
      conv => whnf
      refine ⟨by repeat ((conv => whnf); first | exact trivial | refine ⟨rfl, ?_⟩), trivial, ?_⟩
      conv => whnf
      refine Br.mk (fun h => by simp at h) (fun _ => ?_)
      repeat ((conv => whnf); first | refine Br.t ?_ | refine Br.f ?_ | refine ⟨rfl, ?_⟩)
      conv => whnf
      have W2 := own_k p c d l i t th hth htd hcn hdn (by omega)
      refine W.le (Le.slots (sl' := soS l i (soX t ++ [(13, V.i (I.int .i64 0))])) (by simp [leS, mkS, soS, soX])) (W.mono W2 ?_)
      rintro e s' ⟨rfl, rfl⟩
      repeat ((conv => whnf); first | refine Br.t ?_ | refine Br.f ?_ | refine ⟨rfl, ?_⟩)
      conv => whnf
      refine ⟨t + 1, by omega, by omega, Le.slots ?_⟩
      simp [leS, mkS, soS, soX]
      exact i64_id (by omega) (by omega)
  · have g : t = c.ths.length := by simp at g; omega
    repeat ((conv => whnf); first | refine Br.t ?_ | refine Br.f ?_ | refine ⟨rfl, ?_⟩)
    conv => whnf
    exact ⟨_, Le.slots (by simp [leS, mkS, soS, soX]), rfl, rfl⟩
set_option maxHeartbeats 4000000 in
theorem semown (p : Pg) (hp0 : okPg p) (l : List (Int × Bool)) (hl : okL l) : CallW Try.prog G0 13 [pgV p, .i (.sl (l.map encP))] [] (fun r st' => r = .i (.bool true) ∧ st' = []) := by
  refine call_of_bodyF 0 (Nat.le_refl _) Try.func13 rfl (fun a w => Try.call13 a w) (wpx_ok (own := own0) _ _ _ ?_)
  unfold okL at hl
  repeat ((conv => whnf); first | refine Br.t ?_ | refine Br.f ?_ | refine ⟨rfl, ?_⟩)
  conv => whnf
  refine CallW.mono (semawake.pure _ rfl rfl) ?_
  rintro r st' ⟨rfl, rfl⟩
  repeat ((conv => whnf); first | refine Br.t ?_ | refine Br.f ?_ | refine ⟨rfl, ?_⟩)
  conv => whnf
  refine CallW.mono ((small16 p hp0).pure _ rfl rfl) ?_
  rintro r st' ⟨rfl, rfl⟩
  repeat ((conv => whnf); first | refine Br.t ?_ | refine Br.f ?_ | refine ⟨rfl, ?_⟩)
  conv => whnf
  refine Br.mk (fun z => ?_) (fun z => ?_)
  · repeat ((conv => whnf); first | refine Br.t ?_ | refine Br.f ?_ | refine ⟨rfl, ?_⟩)
    conv => whnf
    refine CallW.mono (semawake.pure _ rfl rfl) ?_
    rintro r st' ⟨rfl, rfl⟩
    repeat ((conv => whnf); first | refine Br.t ?_ | refine Br.f ?_ | refine ⟨rfl, ?_⟩)
    conv => whnf
    refine fin (target := []) rfl (Nat.zero_le _) (by simp) rfl rfl
  repeat ((conv => whnf); first | refine Br.t ?_ | refine Br.f ?_ | refine ⟨rfl, ?_⟩)
  conv => whnf
  refine Br.mk (fun z2 => ?_) (fun z2 => ?_)
  · repeat ((conv => whnf); first | refine Br.t ?_ | refine Br.f ?_ | refine ⟨rfl, ?_⟩)
    conv => whnf
    refine CallW.mono (semawake.pure _ rfl rfl) ?_
    rintro r st' ⟨rfl, rfl⟩
    repeat ((conv => whnf); first | refine Br.t ?_ | refine Br.f ?_ | refine ⟨rfl, ?_⟩)
    conv => whnf
    refine fin (target := []) rfl (Nat.zero_le _) (by simp) rfl rfl
  have hll : l.length ≤ 300 := by simp at z2; omega
  repeat ((conv => whnf); first | refine Br.t ?_ | refine Br.f ?_ | refine ⟨rfl, ?_⟩)
  conv => whnf
  refine CallW.mono ((start_ok p hp0).pure _ rfl rfl) ?_
  rintro r st' ⟨rfl, rfl⟩
  repeat ((conv => whnf); first | refine Br.t ?_ | refine Br.f ?_ | refine ⟨rfl, ?_⟩)
  conv => whnf
  refine Br.mk (fun z3 => ?_) (fun z3 => ?_)
  · have h0 : ¬ (chk p).2.2 = 0 := by simpa using z3
    have es : startC p = cfgZ := by unfold startC; rw [if_neg h0]
    rw [es]
    repeat ((conv => whnf); first | refine Br.t ?_ | refine Br.f ?_ | refine ⟨rfl, ?_⟩)
    conv => whnf
    refine fin (target := []) rfl (Nat.zero_le _) (by simp) rfl rfl
  · have h0 : (chk p).2.2 = 0 := by simpa using z3
    have hp := chk_zero h0
    have es : startC p = cfg0 := by unfold startC; rw [if_pos h0]
    rw [es, h0]
    repeat ((conv => whnf); first | refine Br.t ?_ | refine Br.f ?_ | refine ⟨rfl, ?_⟩)
    conv => whnf
    refine loop_ok (α := Nat) (fun i => ⟨soS l i [], [pgB p, cfgB (runC p cfg0 (l.take i))]⟩)
      (fun i => i ≤ l.length) (fun i => l.length - i) 0 (Nat.zero_le _) (Le.slots (by simp [leS, mkS, soS])) (fun i hi => wpx_ok (own := own0) _ _ _ ?_)
    have hc : OkC p (runC p cfg0 (l.take i)) := runC_ok hp _ (cfg0_ok hp)
    obtain ⟨c, hcc⟩ : ∃ c, c = runC p cfg0 (l.take i) := ⟨_, rfl⟩
    rw [← hcc] at hc ⊢
    repeat ((conv => whnf); first | refine Br.t ?_ | refine Br.f ?_ | refine ⟨rfl, ?_⟩)
    conv => whnf
    refine Br.mk (fun g => ?_) (fun g => ?_)
    · have g : i < l.length := by simpa using g
      obtain ⟨x, hx⟩ : ∃ x, l[i]? = some x := ⟨_, List.getElem?_eq_getElem g⟩
      have ex : (l.map encP).getD (i : Int).toNat [] = encP x := by rw [Int.toNat_natCast]; simp [List.getD_eq_getElem?_getD, hx]
      have cpl := plain_ok p hp c hc
      have ce := enabled_ok p hp c hc x.1
      have hno := step_no (p := p) (c := c) x.1 x.2
      have cs := semstep p hp c hc x.1 x.2
      have cr := rsame_refl p hp c hc
      have W1 := own_t p hp c hc l hll i g x ex
      have hd := stepC_ok hp hc x.1 x.2
      have hrun := run_snoc p cfg0 l i x hx
      rw [← hcc] at hrun
      obtain ⟨d, hdd⟩ : ∃ d, d = stepC p c x.1 x.2 := ⟨_, rfl⟩
      obtain ⟨q, hq⟩ : ∃ q, q = enab p c x.1 := ⟨_, rfl⟩
      rw [← hdd] at cs hrun W1 hd hno
      rw [← hq] at ce hno
      have cpd := plain_ok p hp d hd
      repeat ((conv => whnf); first | refine Br.t ?_ | refine Br.f ?_ | refine ⟨rfl, ?_⟩)
      conv => whnf
      refine CallW.mono (cpl.pure _ rfl rfl) ?_
      rintro r st' ⟨rfl, rfl⟩
      repeat ((conv => whnf); first | refine Br.t ?_ | refine Br.f ?_ | refine ⟨rfl, ?_⟩)
      conv => whnf
      refine draw_ok (own := own0) [] [] [(.i (.bool q), [pgB p, cfgB c, rcB c])] rfl (by kernel_rfl) (Nat.zero_le _) ?_
      repeat ((conv => whnf); first | refine Br.t ?_ | refine Br.f ?_ | refine ⟨rfl, ?_⟩)
      conv => whnf
      rw [ex]
      refine ⟨⟨by omega, by simp; omega, rfl⟩, ?_⟩
      repeat ((conv => whnf); first | refine Br.t ?_ | refine Br.f ?_ | refine ⟨rfl, ?_⟩)
      conv => whnf
      refine ⟨ce.pure _ rfl rfl, ?_⟩
      repeat ((conv => whnf); first | refine Br.t ?_ | refine Br.f ?_ | refine ⟨rfl, ?_⟩)
      conv => whnf
      refine ⟨by repeat ((conv => whnf); first | exact trivial | refine ⟨rfl, ?_⟩), trivial, ?_⟩
      conv => whnf
      repeat ((conv => whnf); first | refine Br.t ?_ | refine Br.f ?_ | refine ⟨rfl, ?_⟩)
      conv => whnf
      refine draw_okG (own := own0) [7, 8] [(6, 8)] [(0, 8), (1, 8), (2, 8), (3, 8), (4, 8), (5, 8)] [(cfgV d, [pgB p, cfgB c, rcB c])] rfl (by kernel_rfl) (by kernel_rfl) (Nat.zero_le _) ?_
      repeat ((conv => whnf); first | refine Br.t ?_ | refine Br.f ?_ | refine ⟨rfl, ?_⟩)
      conv => whnf
      rw [ex]
      refine ⟨⟨by omega, by simp; omega, rfl⟩, ?_⟩
      repeat ((conv => whnf); first | refine Br.t ?_ | refine Br.f ?_ | refine ⟨rfl, ?_⟩)
      conv => whnf
      refine ⟨cs.pure _ rfl rfl, ?_⟩
      repeat ((conv => whnf); first | refine Br.t ?_ | refine Br.f ?_ | refine ⟨rfl, ?_⟩)
      conv => whnf
      refine ⟨by repeat ((conv => whnf); first | exact trivial | refine ⟨rfl, ?_⟩), ?_, by repeat ((conv => whnf); first | exact trivial | refine ⟨⟨_, rfl⟩, ?_⟩), ?_⟩
      · conv => whnf
        refine ⟨?_, trivial⟩
        conv => whnf
        exact cs.pure _ rfl rfl
      conv => whnf
      repeat ((conv => whnf); first | refine Br.t ?_ | refine Br.f ?_ | refine ⟨rfl, ?_⟩)
      conv => whnf
      refine draw_ok (own := own0) [] [] [(rcV c, [pgB p, cfgB c, rcB c, cfgB d]), (.i (.bool true), [pgB p, cfgB c, rcB c, cfgB d])] rfl (by kernel_rfl) (Nat.zero_le _) ?_
      repeat ((conv => whnf); first | refine Br.t ?_ | refine Br.f ?_ | refine ⟨rfl, ?_⟩)
      conv => whnf
      refine ⟨cpl.pure _ rfl rfl, ?_⟩
      repeat ((conv => whnf); first | refine Br.t ?_ | refine Br.f ?_ | refine ⟨rfl, ?_⟩)
      conv => whnf
      refine ⟨cr.pure _ rfl rfl, ?_⟩
      repeat ((conv => whnf); first | refine Br.t ?_ | refine Br.f ?_ | refine ⟨rfl, ?_⟩)
      conv => whnf
      refine ⟨by repeat ((conv => whnf); first | exact trivial | refine ⟨rfl, ?_⟩), trivial, ?_⟩
      conv => whnf
      cases q with
      | true =>
        repeat ((conv => whnf); first | refine Br.t ?_ | refine Br.f ?_ | refine ⟨rfl, ?_⟩)
        conv => whnf
        refine CallW.mono (cpd.pure _ rfl rfl) ?_
        rintro r st' ⟨rfl, rfl⟩
        repeat ((conv => whnf); first | refine Br.t ?_ | refine Br.f ?_ | refine ⟨rfl, ?_⟩)
        conv => whnf
        refine W.le (s' := ⟨soS l i (soX 0), soB p c d⟩) (Le.slots (by simp [leS, mkS, soS, soX])) (W.mono W1 ?_)
        rintro e s' ⟨rfl, rfl⟩
        repeat ((conv => whnf); first | refine Br.t ?_ | refine Br.f ?_ | refine ⟨rfl, ?_⟩)
        conv => whnf
        refine ⟨i + 1, by omega, by omega, ?_⟩
        rw [hrun]
        refine Le.back (fun _ => 0) (by intro id hid; rfl) (by simp) rfl (B2_cl p d _) ?_ rfl
        simp [leS, mkS, soS, V.up]
        exact i64_id (by omega) (by omega)
      | false =>
        have hdc := hno rfl
        have c2 : CallW Try.prog G0 45 [cfgV c, cfgV d] [] (fun r st' => r = .i (.bool true) ∧ st' = []) := by rw [hdc]; exact same_refl p hp c hc
        repeat ((conv => whnf); first | refine Br.t ?_ | refine Br.f ?_ | refine ⟨rfl, ?_⟩)
        conv => whnf
        refine CallW.mono (c2.pure _ rfl rfl) ?_
        rintro r st' ⟨rfl, rfl⟩
        repeat ((conv => whnf); first | refine Br.t ?_ | refine Br.f ?_ | refine ⟨rfl, ?_⟩)
        conv => whnf
        refine CallW.mono (cpd.pure _ rfl rfl) ?_
        rintro r st' ⟨rfl, rfl⟩
        repeat ((conv => whnf); first | refine Br.t ?_ | refine Br.f ?_ | refine ⟨rfl, ?_⟩)
        conv => whnf
        refine W.le (s' := ⟨soS l i (soX 0), soB p c d⟩) (Le.slots (by simp [leS, mkS, soS, soX])) (W.mono W1 ?_)
        rintro e s' ⟨rfl, rfl⟩
        repeat ((conv => whnf); first | refine Br.t ?_ | refine Br.f ?_ | refine ⟨rfl, ?_⟩)
        conv => whnf
        refine ⟨i + 1, by omega, by omega, ?_⟩
        rw [hrun]
        refine Le.back (fun _ => 0) (by intro id hid; rfl) (by simp) rfl (B2_cl p d _) ?_ rfl
        simp [leS, mkS, soS, V.up]
        exact i64_id (by omega) (by omega)
    · repeat ((conv => whnf); first | refine Br.t ?_ | refine Br.f ?_ | refine ⟨rfl, ?_⟩)
      conv => whnf
      refine fin (target := []) rfl (Nat.zero_le _) (by simp) rfl rfl
end Go.Proofs.Ytiikndppckjmhaa.Am

/- Contracts: whether two configs are the same. -/
namespace Go.Proofs.Ytiikndppckjmhaa.Am
set_option autoImplicit false
set_option linter.unusedVariables false
set_option linter.unusedSimpArgs false
set_option maxRecDepth 10000
set_option pp.maxSteps 3000
set_option pp.proofs false
theorem fr_eq (x y : Nat × Nat) : ((x.1 : Int) == (y.1 : Int) && ((x.2 : Int) == (y.2 : Int) && true)) = decide (x = y) := by
  obtain ⟨a, b⟩ := x
  obtain ⟨c, d⟩ := y
  rw [Bool.eq_iff_iff]
  simp
  omega
theorem equal_dec (L M : List (Nat × Nat)) (hl : L.length ≤ 1000) (hm : M.length ≤ 1000) : CallW Try.prog G0 87 [.i (.sl (L.map encFr)), .i (.sl (M.map encFr))] [] (fun r st' => r = .i (.bool (decide (L = M))) ∧ st' = []) := by
  refine call_of_bodyF 0 (Nat.le_refl _) Try.func87 rfl (fun a w => Try.call87 a w) (wpx_ok (own := own0) _ _ _ ?_)
  repeat ((conv => whnf); first | refine Br.t ?_ | refine Br.f ?_ | refine ⟨rfl, ?_⟩)
  conv => whnf
  refine Br.mk (fun h => ?_) (fun h => ?_)
  · have h : L.length ≠ M.length := by simp at h; omega
    rw [decide_eq_false (fun e => h (by rw [e]))]
    repeat ((conv => whnf); first | refine Br.t ?_ | refine Br.f ?_ | refine ⟨rfl, ?_⟩)
    conv => whnf
    refine fin (target := []) rfl (Nat.zero_le _) (by simp) rfl rfl
  · have hlm : L.length = M.length := by simp at h; omega
    obtain ⟨R, hR⟩ : ∃ R, R = decide (L = M) := ⟨_, rfl⟩
    rw [← hR]
    repeat ((conv => whnf); first | refine Br.t ?_ | refine Br.f ?_ | refine ⟨rfl, ?_⟩)
    conv => whnf
    refine loop_ok (α := Nat) (fun i => ⟨mkS 26 [(0, .i (.sl (L.map encFr))), (1, .i (.sl (M.map encFr))), (12, .i (.int .i64 L.length)), (13, .i (.int .i64 i))], []⟩)
      (fun i => i ≤ L.length ∧ decide (L.drop i = M.drop i) = R) (fun i => L.length - i) 0 ⟨Nat.zero_le _, hR.symm⟩ (Le.slots (by simp [leS, mkS])) (fun i hi => wpx_ok (own := own0) _ _ _ ?_)
    obtain ⟨h1, h2⟩ := hi
    repeat ((conv => whnf); first | refine Br.t ?_ | refine Br.f ?_ | refine ⟨rfl, ?_⟩)
    conv => whnf
    refine Br.mk (fun g => ?_) (fun g => ?_)
    · have g : i < L.length := by simpa using g
      obtain ⟨x, hx⟩ : ∃ x, x = L[i] := ⟨_, rfl⟩
      obtain ⟨y, hy⟩ : ∃ y, y = M[i]'(by omega) := ⟨_, rfl⟩
      have ex : (L.map encFr).getD (i : Int).toNat [] = encFr x := by rw [hx]; exact getD_enc g
      have ey : (M.map encFr).getD (i : Int).toNat [] = encFr y := by rw [hy]; exact getD_enc (by omega)
      have edx : L.drop i = x :: L.drop (i + 1) := by rw [hx]; exact List.drop_eq_getElem_cons g
      have edy : M.drop i = y :: M.drop (i + 1) := by rw [hy]; exact List.drop_eq_getElem_cons (by omega)
      rw [edx, edy] at h2
      have hfe := fr_eq x y
      repeat ((conv => whnf); first | refine Br.t ?_ | refine Br.f ?_ | refine ⟨rfl, ?_⟩)
      conv => whnf
      refine draw_ok (own := own0) [] [] [] rfl (by kernel_rfl) (Nat.zero_le _) ?_
      repeat ((conv => whnf); first | refine Br.t ?_ | refine Br.f ?_ | refine ⟨rfl, ?_⟩)
      conv => whnf
      rw [ex]
      refine ⟨⟨by omega, by simp; omega, rfl⟩, ?_⟩
      repeat ((conv => whnf); first | refine Br.t ?_ | refine Br.f ?_ | refine ⟨rfl, ?_⟩)
      conv => whnf
      rw [ey]
      refine ⟨⟨by omega, by simp; omega, rfl⟩, ?_⟩
      repeat ((conv => whnf); first | refine Br.t ?_ | refine Br.f ?_ | refine ⟨rfl, ?_⟩)
      conv => whnf
      refine ⟨by kernel_rfl, ?_⟩
      repeat ((conv => whnf); first | refine Br.t ?_ | refine Br.f ?_ | refine ⟨rfl, ?_⟩)
      conv => whnf
      refine ⟨by repeat ((conv => whnf); first | exact trivial | refine ⟨rfl, ?_⟩), trivial, ?_⟩
      conv => whnf
      rw [hfe]
      refine Br.mk (fun h => ?_) (fun h => ?_)
      · have hxy : x ≠ y := by simpa using h
        have hRf : R = false := by rw [← h2]; simp [hxy]
        rw [hRf]
        repeat ((conv => whnf); first | refine Br.t ?_ | refine Br.f ?_ | refine ⟨rfl, ?_⟩)
        conv => whnf
        refine fin (target := []) rfl (Nat.zero_le _) (by simp) rfl rfl
      · have hxy : x = y := by simpa using h
        repeat ((conv => whnf); first | refine Br.t ?_ | refine Br.f ?_ | refine ⟨rfl, ?_⟩)
        conv => whnf
        refine ⟨i + 1, ⟨by omega, by rw [← h2, hxy]; simp⟩, by omega, Le.slots ?_⟩
        simp [leS, mkS]
        exact i64_id (by omega) (by omega)
    · have g : i = L.length := by simp at g; omega
      have hRt : R = true := by rw [← h2, g, List.drop_length, hlm, List.drop_length]; rfl
      rw [hRt]
      repeat ((conv => whnf); first | refine Br.t ?_ | refine Br.f ?_ | refine ⟨rfl, ?_⟩)
      conv => whnf
      refine fin (target := []) rfl (Nat.zero_le _) (by simp) rfl rfl
theorem sl_eq (a b : List Nat) (ha : a.length = 8) (hb : b.length = 8) : (((a.getD 0 0 : Nat) : Int) == ((b.getD 0 0 : Nat) : Int) && (((a.getD 1 0 : Nat) : Int) == ((b.getD 1 0 : Nat) : Int) && (((a.getD 2 0 : Nat) : Int) == ((b.getD 2 0 : Nat) : Int) && (((a.getD 3 0 : Nat) : Int) == ((b.getD 3 0 : Nat) : Int) && (((a.getD 4 0 : Nat) : Int) == ((b.getD 4 0 : Nat) : Int) && (((a.getD 5 0 : Nat) : Int) == ((b.getD 5 0 : Nat) : Int) && (((a.getD 6 0 : Nat) : Int) == ((b.getD 6 0 : Nat) : Int) && (((a.getD 7 0 : Nat) : Int) == ((b.getD 7 0 : Nat) : Int) && true)))))))) = decide (a = b) := by
  match a, ha with
  | [a0, a1, a2, a3, a4, a5, a6, a7], _ =>
    match b, hb with
    | [b0, b1, b2, b3, b4, b5, b6, b7], _ =>
      rw [Bool.eq_iff_iff]
      simp
      try omega
theorem ow_eq (a b : List Nat) (ha : a.length = 16) (hb : b.length = 16) : (((a.getD 0 0 : Nat) : Int) == ((b.getD 0 0 : Nat) : Int) && (((a.getD 1 0 : Nat) : Int) == ((b.getD 1 0 : Nat) : Int) && (((a.getD 2 0 : Nat) : Int) == ((b.getD 2 0 : Nat) : Int) && (((a.getD 3 0 : Nat) : Int) == ((b.getD 3 0 : Nat) : Int) && (((a.getD 4 0 : Nat) : Int) == ((b.getD 4 0 : Nat) : Int) && (((a.getD 5 0 : Nat) : Int) == ((b.getD 5 0 : Nat) : Int) && (((a.getD 6 0 : Nat) : Int) == ((b.getD 6 0 : Nat) : Int) && (((a.getD 7 0 : Nat) : Int) == ((b.getD 7 0 : Nat) : Int) && (((a.getD 8 0 : Nat) : Int) == ((b.getD 8 0 : Nat) : Int) && (((a.getD 9 0 : Nat) : Int) == ((b.getD 9 0 : Nat) : Int) && (((a.getD 10 0 : Nat) : Int) == ((b.getD 10 0 : Nat) : Int) && (((a.getD 11 0 : Nat) : Int) == ((b.getD 11 0 : Nat) : Int) && (((a.getD 12 0 : Nat) : Int) == ((b.getD 12 0 : Nat) : Int) && (((a.getD 13 0 : Nat) : Int) == ((b.getD 13 0 : Nat) : Int) && (((a.getD 14 0 : Nat) : Int) == ((b.getD 14 0 : Nat) : Int) && (((a.getD 15 0 : Nat) : Int) == ((b.getD 15 0 : Nat) : Int) && true)))))))))))))))) = decide (a = b) := by
  match a, ha with
  | [a0, a1, a2, a3, a4, a5, a6, a7, a8, a9, a10, a11, a12, a13, a14, a15], _ =>
    match b, hb with
    | [b0, b1, b2, b3, b4, b5, b6, b7, b8, b9, b10, b11, b12, b13, b14, b15], _ =>
      rw [Bool.eq_iff_iff]
      simp
      try omega
def sameT (t u : Th) : Bool := decide (t.sl = u.sl) && decide (t.stk = u.stk)
theorem clos_dec (t u : Th) (hl : t.stk.length ≤ 1000) (hm : u.stk.length ≤ 1000) (h8 : t.sl.length = 8) (k8 : u.sl.length = 8) : CallW Try.prog G0 86 [thV t, thV u] [] (fun r st' => r = .i (.bool (sameT t u)) ∧ st' = []) := by
  refine call_of_bodyF 0 (Nat.le_refl _) Try.func86 rfl (fun a w => Try.call86 a w) (wpx_ok (own := own0) _ _ _ ?_)
  have he := sl_eq t.sl u.sl h8 k8
  unfold sameT
  repeat ((conv => whnf); first | refine Br.t ?_ | refine Br.f ?_ | refine ⟨rfl, ?_⟩)
  conv => whnf
  rw [he]
  obtain ⟨q, hq⟩ : ∃ q, q = decide (t.sl = u.sl) := ⟨_, rfl⟩
  rw [← hq]
  cases q with
  | true =>
    repeat ((conv => whnf); first | refine Br.t ?_ | refine Br.f ?_ | refine ⟨rfl, ?_⟩)
    conv => whnf
    refine CallW.mono ((equal_dec t.stk u.stk hl hm).pure _ rfl rfl) ?_
    rintro r st' ⟨rfl, rfl⟩
    repeat ((conv => whnf); first | refine Br.t ?_ | refine Br.f ?_ | refine ⟨rfl, ?_⟩)
    conv => whnf
    refine fin (target := []) rfl (Nat.zero_le _) (by simp) rfl rfl
  | false =>
    repeat ((conv => whnf); first | refine Br.t ?_ | refine Br.f ?_ | refine ⟨rfl, ?_⟩)
    conv => whnf
    refine fin (target := []) rfl (Nat.zero_le _) (by simp) rfl rfl
def sameTs : List Th → List Th → Bool
  | [], [] => true
  | t :: r, u :: s => sameT t u && sameTs r s
  | _, _ => false
theorem sameTs_len : ∀ {r s : List Th}, sameTs r s = true → r.length = s.length
  | [], [], _ => rfl
  | [], _ :: _, h => by simp [sameTs] at h
  | _ :: _, [], h => by simp [sameTs] at h
  | t :: r, u :: s, h => by
    rw [sameTs, Bool.and_eq_true] at h
    simp [sameTs_len h.2]
def efD (c d : Cfg) (i : Nat) : List V := mkS 32 [(1, .i (.sl (d.ths.map encTh))), (2, .fn (.func 86) [] []), (15, .i (.sl (c.ths.map encTh))), (16, .i (.int .i64 c.ths.length)), (17, .i (.int .i64 i))]
theorem efunc_dec (p : Pg) (hp : PgOk p) (c d : Cfg) (hc : OkC p c) (hd : OkC p d) : CallW Try.prog G0 85 [.i (.sl (c.ths.map encTh)), .i (.sl (d.ths.map encTh)), .fn (.func 86) [] []] [] (fun r st' => r = .i (.bool (sameTs c.ths d.ths)) ∧ st' = []) := by
  refine call_of_bodyF 0 (Nat.le_refl _) Try.func85 rfl (fun a w => Try.call85 a w) (wpx_ok (own := own0) _ _ _ ?_)
  have hn := hc.n.2
  have hdn := hd.n.2
  have hpn := hp.n.2
  obtain ⟨R, hR⟩ : ∃ R, R = sameTs c.ths d.ths := ⟨_, rfl⟩
  rw [← hR]
  repeat ((conv => whnf); first | refine Br.t ?_ | refine Br.f ?_ | refine ⟨rfl, ?_⟩)
  conv => whnf
  refine Br.mk (fun h => ?_) (fun h => ?_)
  · have h : c.ths.length ≠ d.ths.length := by simp at h; omega
    have hRf : R = false := by
      rw [hR, Bool.eq_false_iff]; exact fun e => h (sameTs_len e)
    rw [hRf]
    repeat ((conv => whnf); first | refine Br.t ?_ | refine Br.f ?_ | refine ⟨rfl, ?_⟩)
    conv => whnf
    refine fin (target := []) rfl (Nat.zero_le _) (by simp) rfl rfl
  · have hlm : c.ths.length = d.ths.length := by simp at h; omega
    repeat ((conv => whnf); first | refine Br.t ?_ | refine Br.f ?_ | refine ⟨rfl, ?_⟩)
    conv => whnf
    refine loop_ok (α := Nat) (fun i => ⟨efD c d i, []⟩)
      (fun i => i ≤ c.ths.length ∧ sameTs (c.ths.drop i) (d.ths.drop i) = R) (fun i => c.ths.length - i) 0 ⟨Nat.zero_le _, hR.symm⟩ (Le.slots (by simp [leS, mkS, efD])) (fun i hi => wpx_ok (own := own0) _ _ _ ?_)
    obtain ⟨h1, h2⟩ := hi
    repeat ((conv => whnf); first | refine Br.t ?_ | refine Br.f ?_ | refine ⟨rfl, ?_⟩)
    conv => whnf
    refine Br.mk (fun g => ?_) (fun g => ?_)
    · have g : i < c.ths.length := by simpa using g
      have g2 : i < d.ths.length := by omega
      have ht : c.ths[i]? = some c.ths[i] := List.getElem?_eq_getElem g
      have hu : d.ths[i]? = some d.ths[i] := List.getElem?_eq_getElem g2
      rw [List.drop_eq_getElem_cons g, List.drop_eq_getElem_cons g2, sameTs] at h2
      have okt := hc.th _ (List.mem_of_getElem? ht)
      have oku := hd.th _ (List.mem_of_getElem? hu)
      obtain ⟨t, ett⟩ : ∃ t, t = c.ths[i] := ⟨_, rfl⟩
      obtain ⟨u, euu⟩ : ∃ u, u = d.ths[i] := ⟨_, rfl⟩
      rw [← ett] at ht okt h2
      rw [← euu] at hu oku h2
      have hht := okt.h
      have hhu := oku.h
      have cd := clos_dec t u (by omega) (by omega) okt.sl oku.sl
      obtain ⟨q, hq⟩ : ∃ q, q = sameT t u := ⟨_, rfl⟩
      rw [← hq] at cd h2
      repeat ((conv => whnf); first | refine Br.t ?_ | refine Br.f ?_ | refine ⟨rfl, ?_⟩)
      conv => whnf
      rw [encTh_get ht]
      refine ⟨⟨by omega, by simp; omega, rfl⟩, ?_⟩
      repeat ((conv => whnf); first | refine Br.t ?_ | refine Br.f ?_ | refine ⟨rfl, ?_⟩)
      conv => whnf
      rw [encTh_get hu]
      refine ⟨⟨by omega, by simp; omega, rfl⟩, ?_⟩
      repeat ((conv => whnf); first | refine Br.t ?_ | refine Br.f ?_ | refine ⟨rfl, ?_⟩)
      conv => whnf
      refine CallW.mono (cd.pure _ rfl rfl) ?_
      rintro r st' ⟨rfl, rfl⟩
      cases q with
      | false =>
        rw [Bool.false_and] at h2
        rw [← h2]
        repeat ((conv => whnf); first | refine Br.t ?_ | refine Br.f ?_ | refine ⟨rfl, ?_⟩)
        conv => whnf
        refine fin (target := []) rfl (Nat.zero_le _) (by simp) rfl rfl
      | true =>
        rw [Bool.true_and] at h2
        repeat ((conv => whnf); first | refine Br.t ?_ | refine Br.f ?_ | refine ⟨rfl, ?_⟩)
        conv => whnf
        refine ⟨i + 1, ⟨by omega, h2⟩, by omega, Le.back (fun _ => 0) (by intro id hid; rfl) (by simp) rfl (by simp) ?_ rfl⟩
        simp [leS, mkS, efD, V.up]
        exact ⟨rfl, i64_id (by omega) (by omega)⟩
    · have g : i = c.ths.length := by simp at g; omega
      have hRt : R = true := by rw [← h2, g, List.drop_length, hlm, List.drop_length]; rfl
      rw [hRt]
      repeat ((conv => whnf); first | refine Br.t ?_ | refine Br.f ?_ | refine ⟨rfl, ?_⟩)
      conv => whnf
      refine fin (target := []) rfl (Nat.zero_le _) (by simp) rfl rfl
def sameC (c d : Cfg) : Bool := decide (c.own = d.own) && sameTs c.ths d.ths
theorem same_dec (p : Pg) (hp : PgOk p) (c d : Cfg) (hc : OkC p c) (hd : OkC p d) : CallW Try.prog G0 45 [cfgV c, cfgV d] [] (fun r st' => r = .i (.bool (sameC c d)) ∧ st' = []) := by
  refine call_of_bodyF 0 (Nat.le_refl _) Try.func45 rfl (fun a w => Try.call45 a w) (wpx_ok (own := own0) _ _ _ ?_)
  have he := ow_eq c.own d.own hc.own hd.own
  unfold sameC
  repeat ((conv => whnf); first | refine Br.t ?_ | refine Br.f ?_ | refine ⟨rfl, ?_⟩)
  conv => whnf
  rw [he]
  obtain ⟨q, hq⟩ : ∃ q, q = decide (c.own = d.own) := ⟨_, rfl⟩
  rw [← hq]
  cases q with
  | true =>
    repeat ((conv => whnf); first | refine Br.t ?_ | refine Br.f ?_ | refine ⟨rfl, ?_⟩)
    conv => whnf
    refine CallW.mono ((efunc_dec p hp c d hc hd).pure _ rfl rfl) ?_
    rintro r st' ⟨rfl, rfl⟩
    repeat ((conv => whnf); first | refine Br.t ?_ | refine Br.f ?_ | refine ⟨rfl, ?_⟩)
    conv => whnf
    refine fin (target := []) rfl (Nat.zero_le _) (by simp) rfl rfl
  | false =>
    repeat ((conv => whnf); first | refine Br.t ?_ | refine Br.f ?_ | refine ⟨rfl, ?_⟩)
    conv => whnf
    refine fin (target := []) rfl (Nat.zero_le _) (by simp) rfl rfl
end Go.Proofs.Ytiikndppckjmhaa.Am
