/- Contracts: a config's copy, one stack of it a row of its own. -/
import Derived.Test.YtiikndppckjmhaaSmC
namespace Go.Proofs.Ytiikndppckjmhaa.Am
set_option autoImplicit false
set_option linter.unusedVariables false
set_option linter.unusedSimpArgs false
set_option maxRecDepth 10000
set_option pp.maxSteps 3000
set_option pp.proofs false
def E0 (c : Cfg) : List (List V) := lift (c.ths.map encTh)
def thR (id : Nat) (t : Th) : List V := .ref id 2 0 t.stk.length :: (sl8 t.sl).map .i
/-- the rows of a config's threads; thread t's stack is row 'id' -/
def E1 (c : Cfg) (id t : Nat) (th : Th) : List (List V) := (E0 c).set t (thR id th)
theorem E0_get {c : Cfg} {i : Nat} {th : Th} (h : c.ths[i]? = some th) : (E0 c).getD i [] = (encTh th).map .i := by
  simp [E0, lift, List.getD_eq_getElem?_getD, h]
theorem E1_get {c : Cfg} {id t i : Nat} {th' th : Th} (h : c.ths[i]? = some th) (hi : i ≠ t) : (E1 c id t th').getD i [] = (encTh th).map .i := by
  rw [← E0_get h, E1, List.getD_eq_getElem?_getD, List.getD_eq_getElem?_getD, List.getElem?_set_ne (by omega)]
theorem E0_len (c : Cfg) : (E0 c).length = c.ths.length := by simp [E0, lift]
theorem E1_len (c : Cfg) (id t : Nat) (th : Th) : (E1 c id t th).length = c.ths.length := by simp [E1, E0_len]
theorem set_self {α : Type} (l : List α) (i : Nat) (x : α) (h : l[i]? = some x) : l.set i x = l := by
  apply List.ext_getElem?
  intro j
  by_cases hj : i = j
  · subst hj; rw [getElem?_set_eq' (lt_of_get? h), h]
  · rw [getElem?_set_ne' hj]
theorem E0_set {c : Cfg} {i : Nat} {th : Th} (h : c.ths[i]? = some th) : (E0 c).set i ((encTh th).map .i) = E0 c := set_self _ _ _ (by simp [E0, lift, h])
theorem E1_set {c : Cfg} {id t i : Nat} {th' th : Th} (h : c.ths[i]? = some th) (hi : i ≠ t) : (E1 c id t th').set i ((encTh th).map .i) = E1 c id t th' := set_self _ _ _ (by rw [E1, List.getElem?_set_ne (by omega)]; simp [E0, lift, h])
def outB (c : Cfg) (len : Nat) : Ob := .row 0 17 false [.ref 2 2 0 len :: (ow16 c.own).map .i]
def zeroB : Ob := .row 0 17 false [.nils :: (ow16 []).map .i]
def cpB (c : Cfg) (es : List (List V)) : List Ob := [cfgB c, zeroB, .row 2 9 false es, outB c c.ths.length]
def stkB (th : Th) : Ob := .row 2 2 false (lift (th.stk.map encFr))
def cpS (c : Cfg) (i : Nat) : List V := mkS 31 [(1, .ptr 0 0 0 0), (2, .ptr 1 0 0 0), (3, .ptr 3 0 0 0), (13, .i (.int .i64 c.ths.length)), (14, .i (.int .i64 i))]
theorem cpB_cl {c : Cfg} {es : List (List V)} {m : Nat} (hm : 3 ≤ m) (he : ∀ cs ∈ es, V.cl.clAll m cs = true) : ∀ o ∈ cpB c es, o.cl m := by
  intro o ho
  simp only [cpB, List.mem_cons, List.not_mem_nil, or_false] at ho
  rcases ho with rfl | rfl | rfl | rfl
  · exact cfgB_cl c m
  · intro cs hcs; simp only [List.mem_singleton] at hcs; subst hcs; rfl
  · exact he
  · intro cs hcs
    simp only [List.mem_singleton] at hcs
    subst hcs
    simp [V.cl.clAll, V.cl, ow16]
    omega
theorem E0_cl (c : Cfg) (m : Nat) : ∀ cs ∈ E0 c, V.cl.clAll m cs = true := row_cl 1 9 (c.ths.map encTh) m (.row 1 9 false (E0 c)) (by simp [E0])
theorem Le.slotsE {n : Nat} {sl sl' : List V} {st st' : List Ob} (h : leS sl sl') (e : st = st') : Le n ⟨sl, st⟩ ⟨sl', st'⟩ := by subst e; exact Le.slots h
theorem E1_cl (c : Cfg) {id t m : Nat} (th : Th) (h : id < m) : ∀ cs ∈ E1 c id t th, V.cl.clAll m cs = true := by
  intro cs hcs
  rcases List.mem_or_eq_of_mem_set hcs with h1 | rfl
  · exact E0_cl c m cs h1
  · simp [thR, V.cl.clAll, V.cl, sl8, h]
set_option maxHeartbeats 2000000 in
/-- the copies of stacks, all told as data -/
theorem cp_loopD (p : Pg) (hp : PgOk p) (c : Cfg) (hc : OkC p c) :
    W Try.prog G0 0 (.loop (lp Try.f74 0)) (fun e s' => e = .exit 0 ∧ s' = ⟨mkS 31 [(1, .ptr 0 0 0 0), (2, .ptr 1 0 0 0), (3, .ptr 3 0 0 0)], cpB c (E0 c)⟩) ⟨cpS c 0, cpB c (E0 c)⟩ := by
  have hn := hc.n.2
  refine W.weak (loop_ok (α := Nat) (fun i => ⟨cpS c i, cpB c (E0 c)⟩) (fun i => i ≤ c.ths.length) (fun i => c.ths.length - i) 0 (Nat.zero_le _) (Le.refl _ _) (fun i hi => wpx_ok (own := own0) _ _ _ ?_))
  repeat ((conv => whnf); first | refine Br.t ?_ | refine Br.f ?_ | refine ⟨rfl, ?_⟩)
  conv => whnf
  refine Br.mk (fun g => ?_) (fun g => ?_)
  · have g : i < c.ths.length := by simpa using g
    obtain ⟨th, hth⟩ : ∃ th, c.ths[i]? = some th := ⟨_, List.getElem?_eq_getElem g⟩
    have okt := hc.th th (List.mem_of_getElem? hth)
    have hpn := hp.n.2
    have hl : th.stk.length ≤ 16 := by have := okt.h; omega
    have cD := cloneD (th.stk.map encFr) (by intro cs hcs; simp only [List.mem_map] at hcs; obtain ⟨f, _, rfl⟩ := hcs; rfl) (by rw [List.length_map]; exact hl)
    repeat ((conv => whnf); first | refine Br.t ?_ | refine Br.f ?_ | refine ⟨rfl, ?_⟩)
    conv => whnf
    refine draw_ok (own := own0) [12] [] [(.i (.sl (th.stk.map encFr)), cpB c (E0 c))] rfl (by kernel_rfl) (Nat.zero_le _) ?_
    repeat ((conv => whnf); first | refine Br.t ?_ | refine Br.f ?_ | refine ⟨rfl, ?_⟩)
    conv => whnf
    rw [encTh_get hth]
    refine ⟨⟨by omega, by simp; omega, rfl⟩, ?_⟩
    repeat ((conv => whnf); first | refine Br.t ?_ | refine Br.f ?_ | refine ⟨rfl, ?_⟩)
    conv => whnf
    refine ⟨cD.pure _ rfl rfl, ?_⟩
    repeat ((conv => whnf); first | refine Br.t ?_ | refine Br.f ?_ | refine ⟨rfl, ?_⟩)
    conv => whnf
    refine ⟨⟨by omega, by omega⟩, ?_⟩
    repeat ((conv => whnf); first | refine Br.t ?_ | refine Br.f ?_ | refine ⟨rfl, ?_⟩)
    conv => whnf
    refine ⟨by show (_ && Nat.ble _ ((E0 c).getD (0 + (i : Int).toNat) []).length) = true; rw [show 0 + (i : Int).toNat = i by omega, E0_get hth]; rfl, ?_⟩
    repeat ((conv => whnf); first | refine Br.t ?_ | refine Br.f ?_ | refine ⟨rfl, ?_⟩)
    conv => whnf
    refine ⟨by repeat ((conv => whnf); first | exact trivial | refine ⟨rfl, ?_⟩), trivial, ?_⟩
    conv => whnf
    repeat ((conv => whnf); first | refine Br.t ?_ | refine Br.f ?_ | refine ⟨rfl, ?_⟩)
    conv => whnf
    refine ⟨i + 1, by omega, by omega, Le.slotsE ?_ ?_⟩
    · simp [leS, mkS, cpS]
      exact i64_id (by omega) (by omega)
    · show [_, _, Ob.row 2 9 false ((E0 c).set (0 + (i : Int).toNat) (putCells ((E0 c).getD (0 + (i : Int).toNat) []) 0 [V.i (.sl (th.stk.map encFr))])), _] = _
      rw [show 0 + (i : Int).toNat = i by omega, E0_get hth]
      rw [show putCells ((encTh th).map V.i) 0 [V.i (.sl (th.stk.map encFr))] = (encTh th).map V.i from rfl, E0_set hth]
      rfl
  · have g : i = c.ths.length := by simp at g; omega
    subst g
    repeat ((conv => whnf); first | refine Br.t ?_ | refine Br.f ?_ | refine ⟨rfl, ?_⟩)
    conv => whnf
    exact ⟨_, Le.slots (by simp [leS, mkS, cpS]), rfl, rfl⟩
theorem encFr_two (th : Th) : ∀ cs ∈ th.stk.map encFr, cs.length = 2 := by intro cs hcs; simp only [List.mem_map] at hcs; obtain ⟨f, _, rfl⟩ := hcs; rfl
set_option maxHeartbeats 2000000 in
/-- the copies of stacks, thread t's a row of its own -/
theorem cp_loopT (p : Pg) (hp : PgOk p) (c : Cfg) (hc : OkC p c) (t : Nat) (tt : Th) (htt : c.ths[t]? = some tt) (h0 : 0 < tt.stk.length) :
    W Try.prog G0 0 (.loop (lp Try.f74 0)) (fun e s' => e = .exit 0 ∧ s' = ⟨mkS 31 [(1, .ptr 0 0 0 0), (2, .ptr 1 0 0 0), (3, .ptr 3 0 0 0)], cpB c (E1 c 4 t tt) ++ [stkB tt]⟩) ⟨cpS c 0, cpB c (E0 c)⟩ := by
  have hn := hc.n.2
  have htl := lt_some htt
  refine W.weak (loop_ok (α := Nat) (fun i => ⟨cpS c i, if i ≤ t then cpB c (E0 c) else cpB c (E1 c 4 t tt) ++ [stkB tt]⟩) (fun i => i ≤ c.ths.length) (fun i => c.ths.length - i) 0 (Nat.zero_le _) (by rw [if_pos (Nat.zero_le _)]; exact Le.refl _ _) (fun i hi => wpx_ok (own := own0) _ _ _ ?_))
  by_cases g : i < c.ths.length
  · obtain ⟨th, hth⟩ : ∃ th, c.ths[i]? = some th := ⟨_, List.getElem?_eq_getElem g⟩
    have okt := hc.th th (List.mem_of_getElem? hth)
    have hpn := hp.n.2
    have hl : th.stk.length ≤ 16 := by have := okt.h; omega
    rcases Nat.lt_trichotomy i t with ht | ht | ht
    · rw [if_pos (by omega)]
      repeat ((conv => whnf); first | refine Br.t ?_ | refine Br.f ?_ | refine ⟨rfl, ?_⟩)
      conv => whnf
      refine Br.mk (fun _ => ?_) (fun h => by simp at h; omega)
      have cD := cloneD (th.stk.map encFr) (encFr_two th) (by rw [List.length_map]; exact hl)
      repeat ((conv => whnf); first | refine Br.t ?_ | refine Br.f ?_ | refine ⟨rfl, ?_⟩)
      conv => whnf
      refine draw_ok (own := own0) [12] [] [(.i (.sl (th.stk.map encFr)), cpB c (E0 c))] rfl (by kernel_rfl) (Nat.zero_le _) ?_
      repeat ((conv => whnf); first | refine Br.t ?_ | refine Br.f ?_ | refine ⟨rfl, ?_⟩)
      conv => whnf
      rw [encTh_get hth]
      refine ⟨⟨by omega, by simp; omega, rfl⟩, ?_⟩
      repeat ((conv => whnf); first | refine Br.t ?_ | refine Br.f ?_ | refine ⟨rfl, ?_⟩)
      conv => whnf
      refine ⟨cD.pure _ rfl rfl, ?_⟩
      repeat ((conv => whnf); first | refine Br.t ?_ | refine Br.f ?_ | refine ⟨rfl, ?_⟩)
      conv => whnf
      refine ⟨⟨by omega, by omega⟩, ?_⟩
      repeat ((conv => whnf); first | refine Br.t ?_ | refine Br.f ?_ | refine ⟨rfl, ?_⟩)
      conv => whnf
      refine ⟨by show (_ && Nat.ble _ ((E0 c).getD (0 + (i : Int).toNat) []).length) = true; rw [show 0 + (i : Int).toNat = i by omega, E0_get hth]; rfl, ?_⟩
      repeat ((conv => whnf); first | refine Br.t ?_ | refine Br.f ?_ | refine ⟨rfl, ?_⟩)
      conv => whnf
      refine ⟨by repeat ((conv => whnf); first | exact trivial | refine ⟨rfl, ?_⟩), trivial, ?_⟩
      conv => whnf
      repeat ((conv => whnf); first | refine Br.t ?_ | refine Br.f ?_ | refine ⟨rfl, ?_⟩)
      conv => whnf
      refine ⟨i + 1, by omega, by omega, ?_⟩
      rw [if_pos (by omega)]
      refine Le.slotsE ?_ ?_
      · simp [leS, mkS, cpS]
        exact i64_id (by omega) (by omega)
      · show _ :: _ :: Ob.row 2 9 false ((E0 c).set (0 + (i : Int).toNat) (putCells ((E0 c).getD (0 + (i : Int).toNat) []) 0 [V.i (.sl (th.stk.map encFr))])) :: _ = _
        rw [show 0 + (i : Int).toNat = i by omega, E0_get hth, show putCells ((encTh th).map V.i) 0 [V.i (.sl (th.stk.map encFr))] = (encTh th).map V.i from rfl, E0_set hth]
        rfl
    · subst ht
      rw [htt] at hth
      cases hth
      rw [if_pos (Nat.le_refl _)]
      repeat ((conv => whnf); first | refine Br.t ?_ | refine Br.f ?_ | refine ⟨rfl, ?_⟩)
      conv => whnf
      refine Br.mk (fun _ => ?_) (fun h => by simp at h; omega)
      have hne : tt.stk.map encFr ≠ [] := fun h => by rw [List.map_eq_nil_iff] at h; rw [h] at h0; simp at h0
      have cF := cloneF (tt.stk.map encFr) (encFr_two tt) (by rw [List.length_map]; exact hl) hne
      have cF2 := (CallW.rise (bargs := [.i (.sl (tt.stk.map encFr))]) (big := cpB c (E0 c)) [] [] cF rfl (by simp) (by simp) rfl (by simp) (by simp) rfl (fun j s v hs hv => .inl ⟨by cases j <;> simp at hs; subst hs; rfl, by cases j <;> simp at hs hv; subst hs; subst hv; rfl⟩) (.inl rfl)).mono (K' := fun r st' => r = .ref 4 2 0 tt.stk.length ∧ st' = cpB c (E0 c) ++ [stkB tt]) (by
        rintro r st' ⟨r0, s0, ⟨rfl, rfl⟩, rfl, rfl⟩
        refine ⟨?_, ?_⟩
        · simp [V.ren, fm, cpB]
        · simp only [putAll, List.map_cons, List.map_nil, ren_lift, stkB])
      repeat ((conv => whnf); first | refine Br.t ?_ | refine Br.f ?_ | refine ⟨rfl, ?_⟩)
      conv => whnf
      refine draw_okG (own := own0) [9, 12] [] [(0, 12), (1, 12), (2, 12)] [(.ref 4 2 0 tt.stk.length, cpB c (E0 c) ++ [stkB tt])] rfl (by kernel_rfl) (by kernel_rfl) (Nat.zero_le _) ?_
      repeat ((conv => whnf); first | refine Br.t ?_ | refine Br.f ?_ | refine ⟨rfl, ?_⟩)
      conv => whnf
      rw [encTh_get htt]
      refine ⟨⟨by omega, by simp; omega, rfl⟩, ?_⟩
      repeat ((conv => whnf); first | refine Br.t ?_ | refine Br.f ?_ | refine ⟨rfl, ?_⟩)
      conv => whnf
      refine ⟨cF2, ?_⟩
      repeat ((conv => whnf); first | refine Br.t ?_ | refine Br.f ?_ | refine ⟨rfl, ?_⟩)
      conv => whnf
      refine ⟨⟨by omega, by omega⟩, ?_⟩
      repeat ((conv => whnf); first | refine Br.t ?_ | refine Br.f ?_ | refine ⟨rfl, ?_⟩)
      conv => whnf
      refine ⟨by show (_ && Nat.ble _ ((E0 c).getD (0 + (i : Int).toNat) []).length) = true; rw [show 0 + (i : Int).toNat = i by omega, E0_get htt]; rfl, ?_⟩
      repeat ((conv => whnf); first | refine Br.t ?_ | refine Br.f ?_ | refine ⟨rfl, ?_⟩)
      conv => whnf
      refine ⟨by repeat ((conv => whnf); first | exact trivial | refine ⟨rfl, ?_⟩), by repeat ((conv => whnf); first | exact trivial | refine ⟨by (conv => whnf); first | exact ⟨rfl, rfl⟩ | exact ⟨rfl, rfl, rfl⟩, ?_⟩), by repeat ((conv => whnf); first | exact trivial | refine ⟨⟨_, rfl⟩, ?_⟩), ?_⟩
      conv => whnf
      repeat ((conv => whnf); first | refine Br.t ?_ | refine Br.f ?_ | refine ⟨rfl, ?_⟩)
      conv => whnf
      refine ⟨i + 1, by omega, by omega, ?_⟩
      rw [if_neg (by omega)]
      refine Le.slotsE ?_ ?_
      · simp [leS, mkS, cpS]
        exact i64_id (by omega) (by omega)
      · show _ :: _ :: Ob.row 2 9 false ((E0 c).set (0 + (i : Int).toNat) (putCells ((E0 c).getD (0 + (i : Int).toNat) []) 0 [V.ref 4 2 0 tt.stk.length])) :: _ = _
        rw [show 0 + (i : Int).toNat = i by omega, E0_get htt]
        rfl
    · rw [if_neg (by omega)]
      repeat ((conv => whnf); first | refine Br.t ?_ | refine Br.f ?_ | refine ⟨rfl, ?_⟩)
      conv => whnf
      refine Br.mk (fun _ => ?_) (fun h => by simp at h; omega)
      have cD := cloneD (th.stk.map encFr) (encFr_two th) (by rw [List.length_map]; exact hl)
      repeat ((conv => whnf); first | refine Br.t ?_ | refine Br.f ?_ | refine ⟨rfl, ?_⟩)
      conv => whnf
      refine draw_ok (own := own0) [12] [] [(.i (.sl (th.stk.map encFr)), cpB c (E1 c 4 t tt) ++ [stkB tt])] rfl (by kernel_rfl) (Nat.zero_le _) ?_
      repeat ((conv => whnf); first | refine Br.t ?_ | refine Br.f ?_ | refine ⟨rfl, ?_⟩)
      conv => whnf
      rw [encTh_get hth]
      refine ⟨⟨by omega, by simp; omega, rfl⟩, ?_⟩
      repeat ((conv => whnf); first | refine Br.t ?_ | refine Br.f ?_ | refine ⟨rfl, ?_⟩)
      conv => whnf
      refine ⟨cD.pure _ rfl rfl, ?_⟩
      repeat ((conv => whnf); first | refine Br.t ?_ | refine Br.f ?_ | refine ⟨rfl, ?_⟩)
      conv => whnf
      refine ⟨⟨by omega, by omega⟩, ?_⟩
      repeat ((conv => whnf); first | refine Br.t ?_ | refine Br.f ?_ | refine ⟨rfl, ?_⟩)
      conv => whnf
      refine ⟨by show (_ && Nat.ble _ ((E1 c 4 t tt).getD (0 + (i : Int).toNat) []).length) = true; rw [show 0 + (i : Int).toNat = i by omega, E1_get hth (by omega)]; rfl, ?_⟩
      repeat ((conv => whnf); first | refine Br.t ?_ | refine Br.f ?_ | refine ⟨rfl, ?_⟩)
      conv => whnf
      refine ⟨by repeat ((conv => whnf); first | exact trivial | refine ⟨rfl, ?_⟩), trivial, ?_⟩
      conv => whnf
      repeat ((conv => whnf); first | refine Br.t ?_ | refine Br.f ?_ | refine ⟨rfl, ?_⟩)
      conv => whnf
      refine ⟨i + 1, by omega, by omega, ?_⟩
      rw [if_neg (by omega)]
      refine Le.slotsE ?_ ?_
      · simp [leS, mkS, cpS]
        exact i64_id (by omega) (by omega)
      · show _ :: _ :: Ob.row 2 9 false ((E1 c 4 t tt).set (0 + (i : Int).toNat) (putCells ((E1 c 4 t tt).getD (0 + (i : Int).toNat) []) 0 [V.i (.sl (th.stk.map encFr))])) :: _ = _
        rw [show 0 + (i : Int).toNat = i by omega, E1_get hth (by omega), show putCells ((encTh th).map V.i) 0 [V.i (.sl (th.stk.map encFr))] = (encTh th).map V.i from rfl, E1_set hth (by omega)]
        rfl
  · have g : i = c.ths.length := by omega
    subst g
    rw [if_neg (by omega)]
    repeat ((conv => whnf); first | refine Br.t ?_ | refine Br.f ?_ | refine ⟨rfl, ?_⟩)
    conv => whnf
    refine Br.mk (fun h => by simp at h) (fun _ => ?_)
    repeat ((conv => whnf); first | refine Br.t ?_ | refine Br.f ?_ | refine ⟨rfl, ?_⟩)
    conv => whnf
    exact ⟨_, Le.slots (by simp [leS, mkS, cpS]), rfl, rfl⟩
theorem zeroB_cl (m : Nat) : zeroB.cl m := by
  intro cs hcs; simp only [List.mem_singleton] at hcs; subst hcs; rfl
theorem cloneIn (c : Cfg) (hn : 1 ≤ c.ths.length ∧ c.ths.length ≤ 8) (big : List Ob) (h2 : big[2]? = some (.row 1 9 false [])) (hcl : ∀ o ∈ big, o.cl big.length) :
    CallW Try.prog G0 102 [.i (.sl (c.ths.map encTh))] big (fun r st' => r = .ref 2 2 0 c.ths.length ∧ st' = big.set 2 (.row 2 9 false (E0 c))) := by
  have cT := cloneT (c.ths.map encTh) (by intro cs hcs; simp only [List.mem_map] at hcs; obtain ⟨f, _, rfl⟩ := hcs; rfl) (by rw [List.length_map]; exact hn.2) (fun h => by rw [List.map_eq_nil_iff] at h; have := hn.1; rw [h] at this; simp at this)
  have c2 := (CallW.rise (bargs := [.i (.sl (c.ths.map encTh))]) (big := big) [] [] cT rfl (by simp) (by simp) rfl (by simp) (by simp) rfl (fun j s v hs hv => .inl ⟨by cases j <;> simp at hs; subst hs; rfl, by cases j <;> simp at hs hv; subst hs; subst hv; rfl⟩) (.inl rfl)).mono (K' := fun r st' => r = .ref big.length 2 0 c.ths.length ∧ st' = big ++ [.row 2 9 false (lift (c.ths.map encTh))]) (by
    rintro r st' ⟨r0, s0, ⟨rfl, rfl⟩, rfl, rfl⟩
    refine ⟨?_, ?_⟩
    · simp [V.ren, fm]
    · simp only [putAll, List.map_cons, List.map_nil, ren_lift])
  exact CallW.into 2 2 1 9 c.ths.length (c.ths.map encTh) c2 h2 (by decide) hcl
def outV (c : Cfg) (len : Nat) : V := .agg (.ref 2 2 0 len :: (ow16 c.own).map .i)
theorem room_cl (m sz : Nat) : (Ob.row 1 sz false []).cl m := fun cs hcs => by cases hcs
set_option maxHeartbeats 2000000 in
theorem copied_data (p : Pg) (hp : PgOk p) (c : Cfg) (hc : OkC p c) : CallW Try.prog G0 74 [cfgV c] [] (fun r st' => r = cfgV c ∧ st' = []) := by
  refine call_of_bodyF 0 (Nat.le_refl _) Try.func74 rfl (fun a w => Try.call74 a w) (wpx_ok (own := own0) _ _ _ ?_)
  have hn := hc.n
  repeat ((conv => whnf); first | refine Br.t ?_ | refine Br.f ?_ | refine ⟨rfl, ?_⟩)
  conv => whnf
  refine W.le (s' := ⟨mkS 31 [(1, .ptr 0 0 0 0), (2, .ptr 1 0 0 0)], [cfgB c, zeroB] ++ [.row 1 9 false []]⟩) ((Le.slots (sl' := mkS 31 [(1, .ptr 0 0 0 0), (2, .ptr 1 0 0 0)]) (by simp [leS, mkS])).trans (Le.room 9)) ?_
  refine draw_ph (own := own0) [4, 6, 7] [([], some 0, []), ([4], some 5, []), ([6], none, [cfgB c, zeroB, .row 1 9 false [], zeroB]), ([4, 6], some 7, []), ([4, 6, 7], some 8, [])] [(4, 0, 1), (6, 0, 2), (6, 1, 3), (4, 2, 3), (7, 3, 4)]
    [(0, 0), (1, 0), (2, 0), (3, 0), (0, 1), (1, 1), (5, 1), (0, 2), (1, 2), (2, 2), (3, 2), (0, 3), (1, 3), (5, 3)] 4 [(.ref 2 2 0 c.ths.length, [cfgB c, zeroB, .row 2 9 false (E0 c)])] rfl (by kernel_rfl) (by kernel_rfl) (Nat.zero_le _) ?_
  repeat ((conv => whnf); first | refine Br.t ?_ | refine Br.f ?_ | refine ⟨rfl, ?_⟩)
  conv => whnf
  refine ⟨cloneIn c hn [cfgB c, zeroB, .row 1 9 false []] rfl (by
    intro o ho
    simp only [List.mem_cons, List.not_mem_nil, or_false] at ho
    rcases ho with rfl | rfl | rfl
    · exact cfgB_cl c _
    · exact zeroB_cl _
    · exact room_cl _ _), ?_⟩
  repeat ((conv => whnf); first | refine Br.t ?_ | refine Br.f ?_ | refine ⟨rfl, ?_⟩)
  conv => whnf
  refine ⟨?_, ?_, ?_⟩
  · conv => whnf
    refine ⟨?_, ?_⟩
    · conv => whnf
      exact cloneIn c hn [cfgB c, zeroB, .row 1 9 false []] rfl (by
        intro o ho
        simp only [List.mem_cons, List.not_mem_nil, or_false] at ho
        rcases ho with rfl | rfl | rfl
        · exact cfgB_cl c _
        · exact zeroB_cl _
        · exact room_cl _ _)
    conv => whnf
    refine ⟨by (conv => whnf); first | exact ⟨rfl, rfl⟩ | exact ⟨rfl, rfl, rfl⟩, ?_⟩
    conv => whnf
    refine ⟨by (conv => whnf); first | exact ⟨rfl, rfl⟩ | exact ⟨rfl, rfl, rfl⟩, ?_⟩
    conv => whnf
    refine ⟨?_, ?_⟩
    · conv => whnf
      exact cloneIn c hn [cfgB c, zeroB, .row 1 9 false [], zeroB] rfl (by
        intro o ho
        simp only [List.mem_cons, List.not_mem_nil, or_false] at ho
        rcases ho with rfl | rfl | rfl | rfl
        · exact cfgB_cl c _
        · exact zeroB_cl _
        · exact room_cl _ _
        · exact zeroB_cl _)
    conv => whnf
    refine ⟨by (conv => whnf); first | exact ⟨rfl, rfl⟩ | exact ⟨rfl, rfl, rfl⟩, ?_⟩
    conv => whnf
    exact trivial
  · repeat ((conv => whnf); first | exact trivial | refine ⟨by (conv => whnf); first | exact ⟨rfl, rfl⟩ | exact ⟨rfl, rfl, rfl⟩, ?_⟩)
  repeat ((conv => whnf); first | refine Br.t ?_ | refine Br.f ?_ | refine ⟨rfl, ?_⟩)
  conv => whnf
  refine W.le (s' := ⟨cpS c 0, cpB c (E0 c)⟩) (Le.slotsE (by simp [leS, mkS, cpS]) rfl) (W.mono (cp_loopD p hp c hc) ?_)
  rintro e s' ⟨rfl, rfl⟩
  repeat ((conv => whnf); first | refine Br.t ?_ | refine Br.f ?_ | refine ⟨rfl, ?_⟩)
  conv => whnf
  refine ⟨by decide, rfl, c.ths.map encTh, rfl, ?_⟩
  refine fin (target := []) rfl (Nat.zero_le _) (by simp) ?_ rfl
  rw [List.drop_zero, ← List.length_map (f := encTh), List.take_length]
  rfl
set_option maxHeartbeats 2000000 in
theorem copied_own (p : Pg) (hp : PgOk p) (c : Cfg) (hc : OkC p c) (t : Nat) (tt : Th) (htt : c.ths[t]? = some tt) (h0 : 0 < tt.stk.length) :
    CallW Try.prog G0 74 [cfgV c] [] (fun r st' => r = outV c c.ths.length ∧ st' = [.dead, .dead, .row 2 9 false (E1 c 4 t tt), .dead, stkB tt]) := by
  have h : CallW Try.prog G0 74 [cfgV c] [] (fun r st' => r = outV c c.ths.length ∧ st' = [cfgB c, outB c c.ths.length, .row 2 9 false (E1 c 4 t tt), outB c c.ths.length, stkB tt]) := by
    refine call_of_body Try.func74 rfl (fun a w => Try.call74 a w) (wpx_ok (own := own0) _ _ _ ?_)
    have hn := hc.n
    repeat ((conv => whnf); first | refine Br.t ?_ | refine Br.f ?_ | refine ⟨rfl, ?_⟩)
    conv => whnf
    refine W.le (s' := ⟨mkS 31 [(1, .ptr 0 0 0 0), (2, .ptr 1 0 0 0)], [cfgB c, zeroB] ++ [.row 1 9 false []]⟩) ((Le.slots (sl' := mkS 31 [(1, .ptr 0 0 0 0), (2, .ptr 1 0 0 0)]) (by simp [leS, mkS])).trans (Le.room 9)) ?_
    refine draw_ph (own := own0) [4, 6, 7] [([], some 0, []), ([4], some 5, []), ([6], none, [cfgB c, zeroB, .row 1 9 false [], zeroB]), ([4, 6], some 7, []), ([4, 6, 7], some 8, [])] [(4, 0, 1), (6, 0, 2), (6, 1, 3), (4, 2, 3), (7, 3, 4)]
      [(0, 0), (1, 0), (2, 0), (3, 0), (0, 1), (1, 1), (5, 1), (0, 2), (1, 2), (2, 2), (3, 2), (0, 3), (1, 3), (5, 3)] 4 [(.ref 2 2 0 c.ths.length, [cfgB c, zeroB, .row 2 9 false (E0 c)])] rfl (by kernel_rfl) (by kernel_rfl) (Nat.zero_le _) ?_
    repeat ((conv => whnf); first | refine Br.t ?_ | refine Br.f ?_ | refine ⟨rfl, ?_⟩)
    conv => whnf
    refine ⟨cloneIn c hn [cfgB c, zeroB, .row 1 9 false []] rfl (by
      intro o ho
      simp only [List.mem_cons, List.not_mem_nil, or_false] at ho
      rcases ho with rfl | rfl | rfl
      · exact cfgB_cl c _
      · exact zeroB_cl _
      · exact room_cl _ _), ?_⟩
    repeat ((conv => whnf); first | refine Br.t ?_ | refine Br.f ?_ | refine ⟨rfl, ?_⟩)
    conv => whnf
    refine ⟨?_, ?_, ?_⟩
    · conv => whnf
      refine ⟨?_, ?_⟩
      · conv => whnf
        exact cloneIn c hn [cfgB c, zeroB, .row 1 9 false []] rfl (by
          intro o ho
          simp only [List.mem_cons, List.not_mem_nil, or_false] at ho
          rcases ho with rfl | rfl | rfl
          · exact cfgB_cl c _
          · exact zeroB_cl _
          · exact room_cl _ _)
      conv => whnf
      refine ⟨by (conv => whnf); first | exact ⟨rfl, rfl⟩ | exact ⟨rfl, rfl, rfl⟩, ?_⟩
      conv => whnf
      refine ⟨by (conv => whnf); first | exact ⟨rfl, rfl⟩ | exact ⟨rfl, rfl, rfl⟩, ?_⟩
      conv => whnf
      refine ⟨?_, ?_⟩
      · conv => whnf
        exact cloneIn c hn [cfgB c, zeroB, .row 1 9 false [], zeroB] rfl (by
          intro o ho
          simp only [List.mem_cons, List.not_mem_nil, or_false] at ho
          rcases ho with rfl | rfl | rfl | rfl
          · exact cfgB_cl c _
          · exact zeroB_cl _
          · exact room_cl _ _
          · exact zeroB_cl _)
      conv => whnf
      refine ⟨by (conv => whnf); first | exact ⟨rfl, rfl⟩ | exact ⟨rfl, rfl, rfl⟩, ?_⟩
      conv => whnf
      exact trivial
    · repeat ((conv => whnf); first | exact trivial | refine ⟨by (conv => whnf); first | exact ⟨rfl, rfl⟩ | exact ⟨rfl, rfl, rfl⟩, ?_⟩)
    repeat ((conv => whnf); first | refine Br.t ?_ | refine Br.f ?_ | refine ⟨rfl, ?_⟩)
    conv => whnf
    refine W.le (s' := ⟨cpS c 0, cpB c (E0 c)⟩) (Le.slotsE (by simp [leS, mkS, cpS]) rfl) (W.mono (cp_loopT p hp c hc t tt htt h0) ?_)
    rintro e s' ⟨rfl, rfl⟩
    repeat ((conv => whnf); first | refine Br.t ?_ | refine Br.f ?_ | refine ⟨rfl, ?_⟩)
    conv => whnf
    rfl
  refine h.weak ?_
  rintro r st' ⟨rfl, rfl⟩
  exact ⟨_, _, (Le.kill 0).trans ((Le.kill 1).trans (Le.kill 3)), rfl, rfl⟩
end Go.Proofs.Ytiikndppckjmhaa.Am
