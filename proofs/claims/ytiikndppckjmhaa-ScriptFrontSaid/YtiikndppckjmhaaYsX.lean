/- Texts SnA SnC SnD SnE RaA RaB YsA YsB YsW YsC of this session, one behind the other. -/
import Derived.Test.YtiikndppckjmhaaSmI
import Derived.Test.YtiikndppckjmhaaSmH
import Derived.Test.YtiikndppckjmhaaAzX
import Derived.Test.YtiikndppckjmhaaAmV
/- Contracts: a config is the same as itself. -/
namespace Go.Proofs.Ytiikndppckjmhaa.Am
set_option autoImplicit false
set_option linter.unusedVariables false
set_option linter.unusedSimpArgs false
set_option maxRecDepth 10000
set_option pp.maxSteps 3000
set_option pp.proofs false
theorem equal_refl (L : List (Nat × Nat)) (hl : L.length ≤ 1000) : CallW Try.prog G0 87 [.i (.sl (L.map encFr)), .i (.sl (L.map encFr))] [] (fun r st' => r = .i (.bool true) ∧ st' = []) := by
  refine call_of_bodyF 0 (Nat.le_refl _) Try.func87 rfl (fun a w => Try.call87 a w) (wpx_ok (own := own0) _ _ _ ?_)
  repeat ((conv => whnf); first | refine Br.t ?_ | refine Br.f ?_ | refine ⟨rfl, ?_⟩)
  conv => whnf
  refine Br.mk (fun h => by simp at h) (fun _ => ?_)
  repeat ((conv => whnf); first | refine Br.t ?_ | refine Br.f ?_ | refine ⟨rfl, ?_⟩)
  conv => whnf
  refine loop_ok (α := Nat) (fun i => ⟨mkS 26 [(0, .i (.sl (L.map encFr))), (1, .i (.sl (L.map encFr))), (12, .i (.int .i64 L.length)), (13, .i (.int .i64 i))], []⟩)
    (fun i => i ≤ L.length) (fun i => L.length - i) 0 (Nat.zero_le _) (Le.slots (by simp [leS, mkS])) (fun i hi => wpx_ok (own := own0) _ _ _ ?_)
  repeat ((conv => whnf); first | refine Br.t ?_ | refine Br.f ?_ | refine ⟨rfl, ?_⟩)
  conv => whnf
  refine Br.mk (fun g => ?_) (fun g => ?_)
  · have g : i < L.length := by simpa using g
    obtain ⟨x, hx⟩ : ∃ x, x = L[i] := ⟨_, rfl⟩
    have ex : (L.map encFr).getD (i : Int).toNat [] = encFr x := by rw [hx]; exact getD_enc g
    repeat ((conv => whnf); first | refine Br.t ?_ | refine Br.f ?_ | refine ⟨rfl, ?_⟩)
    conv => whnf
    refine draw_ok (own := own0) [] [] [] rfl (by kernel_rfl) (Nat.zero_le _) ?_
    repeat ((conv => whnf); first | refine Br.t ?_ | refine Br.f ?_ | refine ⟨rfl, ?_⟩)
    conv => whnf
    rw [ex]
    refine ⟨⟨by omega, by simp; omega, rfl⟩, ?_⟩
    repeat ((conv => whnf); first | refine Br.t ?_ | refine Br.f ?_ | refine ⟨rfl, ?_⟩)
    conv => whnf
    rw [ex]
    refine ⟨⟨by omega, by simp; omega, rfl⟩, ?_⟩
    repeat ((conv => whnf); first | refine Br.t ?_ | refine Br.f ?_ | refine ⟨rfl, ?_⟩)
    conv => whnf
    refine ⟨by kernel_rfl, ?_⟩
    repeat ((conv => whnf); first | refine Br.t ?_ | refine Br.f ?_ | refine ⟨rfl, ?_⟩)
    conv => whnf
    refine ⟨by repeat ((conv => whnf); first | exact trivial | refine ⟨rfl, ?_⟩), trivial, ?_⟩
    conv => whnf
    refine Br.mk (fun h => by simp at h) (fun _ => ?_)
    repeat ((conv => whnf); first | refine Br.t ?_ | refine Br.f ?_ | refine ⟨rfl, ?_⟩)
    conv => whnf
    refine ⟨i + 1, by omega, by omega, Le.slots ?_⟩
    simp [leS, mkS]
    exact i64_id (by omega) (by omega)
  · repeat ((conv => whnf); first | refine Br.t ?_ | refine Br.f ?_ | refine ⟨rfl, ?_⟩)
    conv => whnf
    refine fin (target := []) rfl (Nat.zero_le _) (by simp) rfl rfl
theorem clos_refl (t : Th) (hl : t.stk.length ≤ 1000) : CallW Try.prog G0 86 [thV t, thV t] [] (fun r st' => r = .i (.bool true) ∧ st' = []) := by
  refine call_of_bodyF 0 (Nat.le_refl _) Try.func86 rfl (fun a w => Try.call86 a w) (wpx_ok (own := own0) _ _ _ ?_)
  repeat ((conv => whnf); first | refine Br.t ?_ | refine Br.f ?_ | refine ⟨rfl, ?_⟩)
  conv => whnf
  refine Br.mk (fun _ => ?_) (fun h => by simp at h)
  repeat ((conv => whnf); first | refine Br.t ?_ | refine Br.f ?_ | refine ⟨rfl, ?_⟩)
  conv => whnf
  refine CallW.mono ((equal_refl t.stk hl).pure _ rfl rfl) ?_
  rintro r st' ⟨rfl, rfl⟩
  repeat ((conv => whnf); first | refine Br.t ?_ | refine Br.f ?_ | refine ⟨rfl, ?_⟩)
  conv => whnf
  refine fin (target := []) rfl (Nat.zero_le _) (by simp) ?_ rfl
  simp
def efS (c : Cfg) (i : Nat) : List V := mkS 32 [(1, .i (.sl (c.ths.map encTh))), (2, .fn (.func 86) [] []), (15, .i (.sl (c.ths.map encTh))), (16, .i (.int .i64 c.ths.length)), (17, .i (.int .i64 i))]
theorem efunc_refl (p : Pg) (hp : PgOk p) (c : Cfg) (hc : OkC p c) : CallW Try.prog G0 85 [.i (.sl (c.ths.map encTh)), .i (.sl (c.ths.map encTh)), .fn (.func 86) [] []] [] (fun r st' => r = .i (.bool true) ∧ st' = []) := by
  refine call_of_bodyF 0 (Nat.le_refl _) Try.func85 rfl (fun a w => Try.call85 a w) (wpx_ok (own := own0) _ _ _ ?_)
  have hn := hc.n.2
  repeat ((conv => whnf); first | refine Br.t ?_ | refine Br.f ?_ | refine ⟨rfl, ?_⟩)
  conv => whnf
  refine Br.mk (fun h => by simp at h) (fun _ => ?_)
  repeat ((conv => whnf); first | refine Br.t ?_ | refine Br.f ?_ | refine ⟨rfl, ?_⟩)
  conv => whnf
  refine loop_ok (α := Nat) (fun i => ⟨efS c i, []⟩)
    (fun i => i ≤ c.ths.length) (fun i => c.ths.length - i) 0 (Nat.zero_le _) (Le.slots (by simp [leS, mkS, efS])) (fun i hi => wpx_ok (own := own0) _ _ _ ?_)
  repeat ((conv => whnf); first | refine Br.t ?_ | refine Br.f ?_ | refine ⟨rfl, ?_⟩)
  conv => whnf
  refine Br.mk (fun g => ?_) (fun g => ?_)
  · have g : i < c.ths.length := by simpa using g
    obtain ⟨t, ht⟩ : ∃ t, c.ths[i]? = some t := ⟨_, List.getElem?_eq_getElem g⟩
    have hh := (hc.th t (List.mem_of_getElem? ht)).h
    have hpn := hp.n.2
    repeat ((conv => whnf); first | refine Br.t ?_ | refine Br.f ?_ | refine ⟨rfl, ?_⟩)
    conv => whnf
    rw [encTh_get ht]
    refine ⟨⟨by omega, by simp; omega, rfl⟩, ?_⟩
    repeat ((conv => whnf); first | refine Br.t ?_ | refine Br.f ?_ | refine ⟨rfl, ?_⟩)
    conv => whnf
    rw [encTh_get ht]
    refine ⟨⟨by omega, by simp; omega, rfl⟩, ?_⟩
    repeat ((conv => whnf); first | refine Br.t ?_ | refine Br.f ?_ | refine ⟨rfl, ?_⟩)
    conv => whnf
    refine CallW.mono ((clos_refl t (by omega)).pure _ rfl rfl) ?_
    rintro r st' ⟨rfl, rfl⟩
    repeat ((conv => whnf); first | refine Br.t ?_ | refine Br.f ?_ | refine ⟨rfl, ?_⟩)
    conv => whnf
    refine ⟨i + 1, by omega, by omega, Le.back (fun _ => 0) (by intro id hid; rfl) (by simp) rfl (by simp) ?_ rfl⟩
    simp [leS, mkS, efS, V.up]
    exact ⟨rfl, i64_id (by omega) (by omega)⟩
  · repeat ((conv => whnf); first | refine Br.t ?_ | refine Br.f ?_ | refine ⟨rfl, ?_⟩)
    conv => whnf
    refine fin (target := []) rfl (Nat.zero_le _) (by simp) rfl rfl
theorem same_refl (p : Pg) (hp : PgOk p) (c : Cfg) (hc : OkC p c) : CallW Try.prog G0 45 [cfgV c, cfgV c] [] (fun r st' => r = .i (.bool true) ∧ st' = []) := by
  refine call_of_bodyF 0 (Nat.le_refl _) Try.func45 rfl (fun a w => Try.call45 a w) (wpx_ok (own := own0) _ _ _ ?_)
  repeat ((conv => whnf); first | refine Br.t ?_ | refine Br.f ?_ | refine ⟨rfl, ?_⟩)
  conv => whnf
  refine Br.mk (fun _ => ?_) (fun h => by simp at h)
  repeat ((conv => whnf); first | refine Br.t ?_ | refine Br.f ?_ | refine ⟨rfl, ?_⟩)
  conv => whnf
  refine CallW.mono ((efunc_refl p hp c hc).pure _ rfl rfl) ?_
  rintro r st' ⟨rfl, rfl⟩
  repeat ((conv => whnf); first | refine Br.t ?_ | refine Br.f ?_ | refine ⟨rfl, ?_⟩)
  conv => whnf
  refine fin (target := []) rfl (Nat.zero_le _) (by simp) ?_ rfl
  simp
end Go.Proofs.Ytiikndppckjmhaa.Am

/- Contract: a config, as the document has it. -/
namespace Go.Proofs.Ytiikndppckjmhaa.Am
set_option autoImplicit false
set_option linter.unusedVariables false
set_option linter.unusedSimpArgs false
set_option maxRecDepth 10000
set_option pp.maxSteps 3000
set_option pp.proofs false
def stkI (t : Th) : List I := [.sl (t.stk.map encFr)]
def slI (t : Th) : List I := sl8 t.sl
def rcV (c : Cfg) : V := .agg (.i (.sl (c.ths.map stkI)) :: .i (.sl (c.ths.map slI)) :: (ow16 c.own).map .i)
def plZ : Ob := .row 0 18 false [.nils :: .nils :: (ow16 []).map .i]
def plB (c : Cfg) (t : Nat) : List Ob := [cfgB c, plZ, .row 0 18 false [.ref 3 1 0 t :: .ref 4 1 0 t :: (ow16 c.own).map .i], .row 1 1 false (lift ((c.ths.take t).map stkI)), .row 1 8 false (lift ((c.ths.take t).map slI))]
def plS (t : Nat) (x : List (Nat × V)) : List V := mkS 64 ([(1, .ptr 0 0 0 0), (2, .ptr 1 0 0 0), (3, .ptr 2 0 0 0), (4, .i (.int .i64 t))] ++ x)
theorem plB_cl (c : Cfg) (t : Nat) : ∀ o ∈ plB c t, o.cl 5 := by
  intro o ho
  simp only [plB, List.mem_cons, List.not_mem_nil, or_false] at ho
  rcases ho with rfl | rfl | rfl | rfl | rfl
  · exact cfgB_cl c _
  · intro cs hcs; simp only [List.mem_singleton] at hcs; subst hcs; rfl
  · intro cs hcs; simp only [List.mem_singleton] at hcs; subst hcs; rfl
  · exact row_cl 1 1 _ _ _ (List.mem_singleton.2 rfl)
  · exact row_cl 1 8 _ _ _ (List.mem_singleton.2 rfl)
def frR (L : List (Nat × Nat)) : Ob := .row 1 2 false (lift (L.map encFr))
theorem plF_cl (c : Cfg) (t : Nat) (L : List (Nat × Nat)) (m : Nat) (hm : 5 ≤ m) : ∀ o ∈ plB c t ++ [frR L], o.cl m := by
  intro o ho
  simp only [plB, List.cons_append, List.nil_append, List.mem_cons, List.not_mem_nil, or_false] at ho
  rcases ho with rfl | rfl | rfl | rfl | rfl | rfl
  · exact cfgB_cl c _
  · intro cs hcs; simp only [List.mem_singleton] at hcs; subst hcs; rfl
  · intro cs hcs; simp only [List.mem_singleton] at hcs; subst hcs
    simp [V.cl, V.cl.clAll, ow16]; omega
  · exact row_cl 1 1 _ _ _ (List.mem_singleton.2 rfl)
  · exact row_cl 1 8 _ _ _ (List.mem_singleton.2 rfl)
  · exact row_cl 1 2 _ _ _ (List.mem_singleton.2 rfl)
set_option maxHeartbeats 1000000 in
theorem plain_in (c : Cfg) (t : Nat) (th : Th) (hth : c.ths[t]? = some th) (hn : c.ths.length ≤ 8) (hh : th.stk.length ≤ 16) :
    W Try.prog G0 0 (.loop (lp Try.f31 1)) (fun e s' => e = .exit 2 ∧ s' = ⟨plS t [(5, .i (.sl (th.stk.map encFr)))], plB c t⟩) ⟨plS t [(5, .ref 5 1 0 (th.stk.take 0).length), (6, .i (.int .i64 0))], plB c t ++ [frR (th.stk.take 0)]⟩ := by
  have htl := lt_some hth
  refine W.weak (loop_ok (α := Nat) (fun j => ⟨plS t [(5, .ref 5 1 0 (th.stk.take j).length), (6, .i (.int .i64 j))], plB c t ++ [frR (th.stk.take j)]⟩)
    (fun j => j ≤ th.stk.length) (fun j => th.stk.length - j) 0 (Nat.zero_le _) (Le.refl _ _) (fun j hj => wpx_ok (own := own0) _ _ _ ?_))
  have hlj : (th.stk.take j).length = j := by simp; omega
  repeat ((conv => whnf); first | refine Br.t ?_ | refine Br.f ?_ | refine ⟨rfl, ?_⟩)
  conv => whnf
  rw [encTh_get hth]
  refine ⟨⟨by omega, by simp; omega, rfl⟩, ?_⟩
  repeat ((conv => whnf); first | refine Br.t ?_ | refine Br.f ?_ | refine ⟨rfl, ?_⟩)
  conv => whnf
  refine Br.mk (fun g => ?_) (fun g => ?_)
  · have g : j < th.stk.length := by simpa using g
    obtain ⟨x, hx⟩ : ∃ x, x = th.stk[j] := ⟨_, rfl⟩
    have ex : (th.stk.map encFr).getD (j : Int).toNat [] = encFr x := by rw [hx]; exact getD_enc g
    have et : th.stk.take (j + 1) = th.stk.take j ++ [x] := by rw [hx]; simp
    repeat ((conv => whnf); first | refine Br.t ?_ | refine Br.f ?_ | refine ⟨rfl, ?_⟩)
    conv => whnf
    rw [encTh_get hth]
    refine ⟨⟨by omega, by simp; omega, rfl⟩, ?_⟩
    repeat ((conv => whnf); first | refine Br.t ?_ | refine Br.f ?_ | refine ⟨rfl, ?_⟩)
    conv => whnf
    rw [ex]
    refine ⟨⟨by omega, by simp; omega, rfl⟩, ?_⟩
    repeat ((conv => whnf); first | refine Br.t ?_ | refine Br.f ?_ | refine ⟨rfl, ?_⟩)
    conv => whnf
    refine ⟨⟨by intro cs hcs; simp at hcs; subst hcs; rfl, by simp [lift], by rw [hlj]; show (j + 1) * 16 ≤ _; omega, len_mx (by rw [hlj]; simp [lift]; omega)⟩, ?_⟩
    repeat ((conv => whnf); first | refine Br.t ?_ | refine Br.f ?_ | refine ⟨rfl, ?_⟩)
    conv => whnf
    refine ⟨j + 1, by omega, by omega, Le.back (fun id => if id = 5 then 1 else 0) (by intro id hid; simp at hid) (by simp [plB]) rfl (plF_cl c t _ _ (by simp [plB])) ?_ ?_⟩
    · rw [et]
      simp [leS, mkS, plS, V.up, lift]
      exact i64_id (by omega) (by omega)
    · rw [et]
      simp only [upSt, Ob.up, map_up_lift, List.map_append, lift_app, plB, frR, List.cons_append, List.nil_append]
      rfl
  · have g : j = th.stk.length := by simp at g; omega
    subst g
    repeat ((conv => whnf); first | refine Br.t ?_ | refine Br.f ?_ | refine ⟨rfl, ?_⟩)
    conv => whnf
    refine ⟨_, (Le.data 5 1 2 (th.stk.map encFr) (s := ⟨plS t [(5, .i (.sl (th.stk.map encFr)))], plB c t ++ [.dead]⟩) ?_ ?_ ?_).trans (Le.short (Nat.zero_le _) rfl (plB_cl c t)), rfl, rfl⟩
    · rw [List.take_length]; rfl
    · simp [leS, mkS, plS, V.dat]
      exact List.take_of_length_le (by simp)
    · simp only [plB, List.cons_append, List.nil_append, List.map_cons, List.map_nil, Ob.dat, dat_lift']
      rfl
def plE (c : Cfg) : List Ob := [cfgB c, plZ, .row 0 18 false [.i (.sl (c.ths.map stkI)) :: .i (.sl (c.ths.map slI)) :: (ow16 c.own).map .i]]
theorem plE_cl (c : Cfg) : ∀ o ∈ plE c, o.cl 3 := by
  intro o ho
  simp only [plE, List.mem_cons, List.not_mem_nil, or_false] at ho
  rcases ho with rfl | rfl | rfl
  · exact cfgB_cl c _
  · intro cs hcs; simp only [List.mem_singleton] at hcs; subst hcs; rfl
  · intro cs hcs; simp only [List.mem_singleton] at hcs; subst hcs; rfl
set_option maxHeartbeats 1000000 in
theorem plain_out (p : Pg) (hp : PgOk p) (c : Cfg) (hc : OkC p c) :
    W Try.prog G0 0 (.loop (lp Try.f31 0)) (fun e s' => e = .exit 0 ∧ s' = ⟨mkS 64 [(2, .ptr 1 0 0 0), (3, .ptr 2 0 0 0)], plE c⟩) ⟨plS 0 [], plB c 0⟩ := by
  have hn := hc.n.2
  refine W.weak (loop_ok (α := Nat) (fun t => ⟨plS t [], plB c t⟩)
    (fun t => t ≤ c.ths.length) (fun t => c.ths.length - t) 0 (Nat.zero_le _) (Le.refl _ _) (fun t ht => wpx_ok (own := own0) _ _ _ ?_))
  repeat ((conv => whnf); first | refine Br.t ?_ | refine Br.f ?_ | refine ⟨rfl, ?_⟩)
  conv => whnf
  refine Br.mk (fun g => ?_) (fun g => ?_)
  · have g : t < c.ths.length := by simpa using g
    obtain ⟨th, hth⟩ : ∃ th, c.ths[t]? = some th := ⟨_, List.getElem?_eq_getElem g⟩
    have hh := (hc.th th (List.mem_of_getElem? hth)).h
    have hpn := hp.n.2
    have htk : (c.ths.take t).length = t := by simp; omega
    have et : c.ths.take (t + 1) = c.ths.take t ++ [th] := by
      rw [List.take_succ_eq_append_getElem g]; congr 2
      exact Option.some.inj ((List.getElem?_eq_getElem g).symm.trans hth)
    repeat ((conv => whnf); first | refine Br.t ?_ | refine Br.f ?_ | refine ⟨rfl, ?_⟩)
    conv => whnf
    refine W.le ((Le.nil (n := 0) 5 2 rfl).trans (Le.slots (sl' := plS t [(5, .ref 5 1 0 (th.stk.take 0).length), (6, .i (.int .i64 0))]) (by simp [leS, mkS, plS, plB]))) (W.mono (plain_in c t th hth hn (by omega)) ?_)
    rintro e s' ⟨rfl, rfl⟩
    repeat ((conv => whnf); first | refine Br.t ?_ | refine Br.f ?_ | refine ⟨rfl, ?_⟩)
    conv => whnf
    refine ⟨⟨by intro cs hcs; simp at hcs; subst hcs; rfl, by simp [lift]; omega, by show (t + 1) * 24 ≤ _; omega, len_mx (by simp [lift]; omega)⟩, ?_⟩
    repeat ((conv => whnf); first | refine Br.t ?_ | refine Br.f ?_ | refine ⟨rfl, ?_⟩)
    conv => whnf
    refine draw_ok (own := own0) [9, 11] [] [] rfl (by kernel_rfl) (Nat.zero_le _) ?_
    repeat ((conv => whnf); first | refine Br.t ?_ | refine Br.f ?_ | refine ⟨rfl, ?_⟩)
    conv => whnf
    rw [encTh_get hth]
    refine ⟨⟨by omega, by simp; omega, rfl⟩, ?_⟩
    repeat ((conv => whnf); first | refine Br.t ?_ | refine Br.f ?_ | refine ⟨rfl, ?_⟩)
    conv => whnf
    refine ⟨⟨by intro cs hcs; simp at hcs; subst hcs; rfl, by simp [lift]; omega, by show (t + 1) * 64 ≤ _; omega, len_mx (by simp [lift]; omega)⟩, ?_⟩
    repeat ((conv => whnf); first | refine Br.t ?_ | refine Br.f ?_ | refine ⟨rfl, ?_⟩)
    conv => whnf
    refine ⟨by repeat ((conv => whnf); first | exact trivial | refine ⟨rfl, ?_⟩), trivial, ?_⟩
    conv => whnf
    repeat ((conv => whnf); first | refine Br.t ?_ | refine Br.f ?_ | refine ⟨rfl, ?_⟩)
    conv => whnf
    refine ⟨t + 1, by omega, by omega, Le.back (fun id => if id = 3 ∨ id = 4 then 1 else 0) (by intro id hid; simp at hid) (by simp [plB]) rfl (plB_cl c _) ?_ ?_⟩
    · simp [leS, mkS, plS, V.up]
      exact i64_id (by omega) (by omega)
    · rw [plB, et]
      simp only [upSt, Ob.up, map_up_lift, List.map_append, lift_app]
      rfl
  · have g : t = c.ths.length := by simp at g; omega
    subst g
    have e1 : (c.ths.take c.ths.length) = c.ths := List.take_length
    repeat ((conv => whnf); first | refine Br.t ?_ | refine Br.f ?_ | refine ⟨rfl, ?_⟩)
    conv => whnf
    refine ⟨_, (Le.data 3 1 1 (c.ths.map stkI) (s := ⟨plS c.ths.length [], [cfgB c, plZ, .row 0 18 false [.i (.sl (c.ths.map stkI)) :: .ref 4 1 0 c.ths.length :: (ow16 c.own).map .i], .dead, .row 1 8 false (lift (c.ths.map slI))]⟩) (by rw [e1]; rfl) ?_ ?_).trans
      ((Le.data 4 1 8 (c.ths.map slI) (s := ⟨plS c.ths.length [], plE c ++ [.dead, .dead]⟩) rfl ?_ ?_).trans ((Le.slots (sl' := mkS 64 [(2, .ptr 1 0 0 0), (3, .ptr 2 0 0 0)]) (by simp [leS, mkS, plS])).trans (Le.short (Nat.zero_le _) rfl (plE_cl c)))), rfl, rfl⟩
    · simp [leS, mkS, plS, V.dat]
    · rw [e1]
      simp only [plB, List.map_cons, List.map_nil, Ob.dat, dat_lift']
      rw [show V.i (I.sl (c.ths.map stkI)) = V.i (I.sl ((c.ths.map stkI).take c.ths.length)) by rw [List.take_of_length_le (by simp)]]
      rfl
    · simp [leS, mkS, plS, V.dat]
    · simp only [plE, List.cons_append, List.nil_append, List.map_cons, List.map_nil, Ob.dat, dat_lift']
      rw [show V.i (I.sl (c.ths.map slI)) = V.i (I.sl ((c.ths.map slI).take c.ths.length)) by rw [List.take_of_length_le (by simp)]]
      rfl
set_option maxHeartbeats 1000000 in
theorem plain_ok (p : Pg) (hp : PgOk p) (c : Cfg) (hc : OkC p c) : CallW Try.prog G0 31 [cfgV c] [] (fun r st' => r = rcV c ∧ st' = []) := by
  refine call_of_bodyF 0 (Nat.le_refl _) Try.func31 rfl (fun a w => Try.call31 a w) (wpx_ok (own := own0) _ _ _ ?_)
  repeat ((conv => whnf); first | refine Br.t ?_ | refine Br.f ?_ | refine ⟨rfl, ?_⟩)
  conv => whnf
  refine W.le (((Le.nilCell (n := 0) 2 0 0 1 rfl rfl rfl).trans (Le.nilCell (n := 0) 2 0 1 8 rfl rfl rfl)).trans (Le.slotsE (sl' := plS 0 []) (st' := plB c 0) (by simp [leS, mkS, plS]) ?_)) (W.mono (plain_out p hp c hc) ?_)
  · rfl
  rintro e s' ⟨rfl, rfl⟩
  repeat ((conv => whnf); first | refine Br.t ?_ | refine Br.f ?_ | refine ⟨rfl, ?_⟩)
  conv => whnf
  refine fin (target := []) rfl (Nat.zero_le _) (by simp) rfl rfl
end Go.Proofs.Ytiikndppckjmhaa.Am

/- Contract: the document's sameness of a config with itself. -/
namespace Go.Proofs.Ytiikndppckjmhaa.Am
set_option autoImplicit false
set_option linter.unusedVariables false
set_option linter.unusedSimpArgs false
set_option maxRecDepth 10000
set_option pp.maxSteps 3000
set_option pp.proofs false
def rcB (c : Cfg) : Ob := .row 0 18 false [.i (.sl (c.ths.map stkI)) :: .i (.sl (c.ths.map slI)) :: (ow16 c.own).map .i]
theorem stkI_get {c : Cfg} {t : Nat} {th : Th} (h : c.ths[t]? = some th) : (c.ths.map stkI).getD ((t : Nat) : Int).toNat [] = stkI th := by
  rw [Int.toNat_natCast]; simp [List.getD_eq_getElem?_getD, h]
theorem slI_get {c : Cfg} {t : Nat} {th : Th} (h : c.ths[t]? = some th) : (c.ths.map slI).getD ((t : Nat) : Int).toNat [] = sl8 th.sl := by
  rw [Int.toNat_natCast]; simp [List.getD_eq_getElem?_getD, h, slI]
def rsS (t : Nat) (x : List (Nat × V)) : List V := mkS 81 ([(2, .ptr 0 0 0 0), (3, .ptr 1 0 0 0), (5, .i (.int .i64 t))] ++ x)
set_option maxHeartbeats 1000000 in
theorem rsame_in (c : Cfg) (t : Nat) (th : Th) (hth : c.ths[t]? = some th) (hn : c.ths.length ≤ 8) (hh : th.stk.length ≤ 16) :
    W Try.prog G0 0 (.loop (lp Try.f30 1)) (fun e s' => e = .exit 2 ∧ s' = ⟨rsS t [], [rcB c, rcB c]⟩) ⟨rsS t [(6, .i (.int .i64 0))], [rcB c, rcB c]⟩ := by
  have htl := lt_some hth
  refine W.weak (loop_ok (α := Nat) (fun j => ⟨rsS t [(6, .i (.int .i64 j))], [rcB c, rcB c]⟩)
    (fun j => j ≤ th.stk.length) (fun j => th.stk.length - j) 0 (Nat.zero_le _) (Le.refl _ _) (fun j hj => wpx_ok (own := own0) _ _ _ ?_))
  repeat ((conv => whnf); first | refine Br.t ?_ | refine Br.f ?_ | refine ⟨rfl, ?_⟩)
  conv => whnf
  rw [stkI_get hth]
  refine ⟨⟨by omega, by simp; omega, rfl⟩, ?_⟩
  repeat ((conv => whnf); first | refine Br.t ?_ | refine Br.f ?_ | refine ⟨rfl, ?_⟩)
  conv => whnf
  refine Br.mk (fun g => ?_) (fun g => ?_)
  · have g : j < th.stk.length := by simpa using g
    obtain ⟨x, hx⟩ : ∃ x, x = th.stk[j] := ⟨_, rfl⟩
    have ex : (th.stk.map encFr).getD (j : Int).toNat [] = encFr x := by rw [hx]; exact getD_enc g
    repeat ((conv => whnf); first | refine Br.t ?_ | refine Br.f ?_ | refine ⟨rfl, ?_⟩)
    conv => whnf
    refine draw_ok (own := own0) [] [] [] rfl (by kernel_rfl) (Nat.zero_le _) ?_
    repeat ((conv => whnf); first | refine Br.t ?_ | refine Br.f ?_ | refine ⟨rfl, ?_⟩)
    conv => whnf
    rw [stkI_get hth]
    refine ⟨⟨by omega, by simp; omega, rfl⟩, ?_⟩
    repeat ((conv => whnf); first | refine Br.t ?_ | refine Br.f ?_ | refine ⟨rfl, ?_⟩)
    conv => whnf
    rw [ex]
    refine ⟨⟨by omega, by simp; omega, rfl⟩, ?_⟩
    repeat ((conv => whnf); first | refine Br.t ?_ | refine Br.f ?_ | refine ⟨rfl, ?_⟩)
    conv => whnf
    rw [stkI_get hth]
    refine ⟨⟨by omega, by simp; omega, rfl⟩, ?_⟩
    repeat ((conv => whnf); first | refine Br.t ?_ | refine Br.f ?_ | refine ⟨rfl, ?_⟩)
    conv => whnf
    rw [ex]
    refine ⟨⟨by omega, by simp; omega, rfl⟩, ?_⟩
    repeat ((conv => whnf); first | refine Br.t ?_ | refine Br.f ?_ | refine ⟨rfl, ?_⟩)
    conv => whnf
    refine ⟨by kernel_rfl, ?_⟩
    repeat ((conv => whnf); first | refine Br.t ?_ | refine Br.f ?_ | refine ⟨rfl, ?_⟩)
    conv => whnf
    refine ⟨by repeat ((conv => whnf); first | exact trivial | refine ⟨rfl, ?_⟩), trivial, ?_⟩
    conv => whnf
    refine Br.mk (fun h => by simp at h) (fun _ => ?_)
    repeat ((conv => whnf); first | refine Br.t ?_ | refine Br.f ?_ | refine ⟨rfl, ?_⟩)
    conv => whnf
    refine ⟨j + 1, by omega, by omega, Le.slots ?_⟩
    simp [leS, mkS, rsS]
    exact i64_id (by omega) (by omega)
  · repeat ((conv => whnf); first | refine Br.t ?_ | refine Br.f ?_ | refine ⟨rfl, ?_⟩)
    conv => whnf
    exact ⟨_, Le.slots (by simp [leS, mkS, rsS]), rfl, rfl⟩
set_option maxHeartbeats 1000000 in
theorem rsame_refl (p : Pg) (hp : PgOk p) (c : Cfg) (hc : OkC p c) : CallW Try.prog G0 30 [rcV c, rcV c] [] (fun r st' => r = .i (.bool true) ∧ st' = []) := by
  refine call_of_bodyF 0 (Nat.le_refl _) Try.func30 rfl (fun a w => Try.call30 a w) (wpx_ok (own := own0) _ _ _ ?_)
  have hn := hc.n.2
  repeat ((conv => whnf); first | refine Br.t ?_ | refine Br.f ?_ | refine ⟨rfl, ?_⟩)
  conv => whnf
  refine Br.mk (fun h => by simp at h) (fun _ => ?_)
  repeat ((conv => whnf); first | refine Br.t ?_ | refine Br.f ?_ | refine ⟨rfl, ?_⟩)
  conv => whnf
  refine Br.mk (fun h => by simp at h) (fun _ => ?_)
  repeat ((conv => whnf); first | refine Br.t ?_ | refine Br.f ?_ | refine ⟨rfl, ?_⟩)
  conv => whnf
  refine loop_ok (α := Nat) (fun t => ⟨rsS t [], [rcB c, rcB c]⟩)
    (fun t => t ≤ c.ths.length) (fun t => c.ths.length - t) 0 (Nat.zero_le _) (Le.slots (by simp [leS, mkS, rsS])) (fun t ht => wpx_ok (own := own0) _ _ _ ?_)
  repeat ((conv => whnf); first | refine Br.t ?_ | refine Br.f ?_ | refine ⟨rfl, ?_⟩)
  conv => whnf
  refine Br.mk (fun g => ?_) (fun g => ?_)
  · have g : t < c.ths.length := by simpa using g
    obtain ⟨th, hth⟩ : ∃ th, c.ths[t]? = some th := ⟨_, List.getElem?_eq_getElem g⟩
    have hh := (hc.th th (List.mem_of_getElem? hth)).h
    have hpn := hp.n.2
    repeat ((conv => whnf); first | refine Br.t ?_ | refine Br.f ?_ | refine ⟨rfl, ?_⟩)
    conv => whnf
    refine draw_ok (own := own0) [] [] [] rfl (by kernel_rfl) (Nat.zero_le _) ?_
    repeat ((conv => whnf); first | refine Br.t ?_ | refine Br.f ?_ | refine ⟨rfl, ?_⟩)
    conv => whnf
    rw [slI_get hth]
    refine ⟨⟨by omega, by simp; omega, rfl⟩, ?_⟩
    repeat ((conv => whnf); first | refine Br.t ?_ | refine Br.f ?_ | refine ⟨rfl, ?_⟩)
    conv => whnf
    rw [slI_get hth]
    refine ⟨⟨by omega, by simp; omega, rfl⟩, ?_⟩
    repeat ((conv => whnf); first | refine Br.t ?_ | refine Br.f ?_ | refine ⟨rfl, ?_⟩)
    conv => whnf
    refine Br.mk (fun h => by simp at h) (fun _ => ?_)
    repeat ((conv => whnf); first | refine Br.t ?_ | refine Br.f ?_ | refine ⟨rfl, ?_⟩)
    conv => whnf
    rw [stkI_get hth]
    refine ⟨⟨by omega, by simp; omega, rfl⟩, ?_⟩
    repeat ((conv => whnf); first | refine Br.t ?_ | refine Br.f ?_ | refine ⟨rfl, ?_⟩)
    conv => whnf
    rw [stkI_get hth]
    refine ⟨⟨by omega, by simp; omega, rfl⟩, ?_⟩
    repeat ((conv => whnf); first | refine Br.t ?_ | refine Br.f ?_ | refine ⟨rfl, ?_⟩)
    conv => whnf
    refine ⟨by repeat ((conv => whnf); first | exact trivial | refine ⟨rfl, ?_⟩), trivial, ?_⟩
    conv => whnf
    refine Br.mk (fun h => by simp at h) (fun _ => ?_)
    repeat ((conv => whnf); first | refine Br.t ?_ | refine Br.f ?_ | refine ⟨rfl, ?_⟩)
    conv => whnf
    refine W.le (s' := ⟨rsS t [(6, .i (.int .i64 0))], [rcB c, rcB c]⟩) (Le.slots (by simp [leS, mkS, rsS])) (W.mono (rsame_in c t th hth hn (by omega)) ?_)
    rintro e s' ⟨rfl, rfl⟩
    repeat ((conv => whnf); first | refine Br.t ?_ | refine Br.f ?_ | refine ⟨rfl, ?_⟩)
    conv => whnf
    refine ⟨t + 1, by omega, by omega, Le.slots ?_⟩
    simp [leS, mkS, rsS]
    exact i64_id (by omega) (by omega)
  · repeat ((conv => whnf); first | refine Br.t ?_ | refine Br.f ?_ | refine ⟨rfl, ?_⟩)
    conv => whnf
    refine fin (target := []) rfl (Nat.zero_le _) (by simp) rfl rfl
end Go.Proofs.Ytiikndppckjmhaa.Am

/- Contract: a step of a thread changes nothing of another one. -/
namespace Go.Proofs.Ytiikndppckjmhaa.Am
set_option autoImplicit false
set_option linter.unusedVariables false
set_option linter.unusedSimpArgs false
set_option maxRecDepth 10000
set_option pp.maxSteps 3000
set_option pp.proofs false
theorem step_no {p : Pg} {c : Cfg} (who : Int) (way : Bool) (h : enab p c who = false) : stepC p c who way = c := by
  unfold stepC; rw [if_neg (by rw [h]; simp)]
theorem own_th {p : Pg} {c : Cfg} (who : Int) (way : Bool) {t : Nat} (ht : t < c.ths.length) (hne : (t : Int) ≠ who) : (stepC p c who way).ths[t]? = c.ths[t]? := by
  unfold stepC
  split
  · rename_i he
    cases hth : thAt c who with
    | none => rfl
    | some th =>
      simp only
      have hlive : lives c who = true := by
        unfold enab at he
        simp only [Bool.and_eq_true] at he
        exact he.1
      have hw : 0 ≤ who := by
        refine Classical.byContradiction fun h => ?_
        rw [lives_none (by omega)] at hlive; cases hlive
      exact doC_ths ht (by omega)
  · rfl
theorem own_held {p : Pg} {c : Cfg} (hp : PgOk p) (hc : OkC p c) (who : Int) (way : Bool) {t : Nat} (hne : (t : Int) ≠ who) : held (stepC p c who way) (t : Int) = held c (t : Int) := by
  apply Nat.eq_of_testBit_eq
  intro i
  have h1 := grows hp hc who way t (fun h => hne h.1) i
  have h2 := shrinks hp hc who way t (fun h => hne h.1) i
  cases ha : (held (stepC p c who way) (t : Int)).testBit i <;> cases hb : (held c (t : Int)).testBit i
  · rfl
  · rw [h2 hb] at ha; cases ha
  · rw [h1 ha] at hb; cases hb
  · rfl
def soS (l : List (Int × Bool)) (i : Nat) (x : List (Nat × V)) : List V := mkS 153 ([(1, .i (.sl (l.map encP))), (2, .ptr 0 0 0 0), (5, .ptr 1 0 0 0), (7, .i (.int .i64 i))] ++ x)
def soX (t : Nat) : List (Nat × V) := [(8, .ptr 2 0 0 0), (10, .ptr 3 0 0 0), (11, .ptr 4 0 0 0), (12, .i (.int .i64 t))]
def soB (p : Pg) (c d : Cfg) : List Ob := [pgB p, cfgB c, rcB c, cfgB d, rcB d]
set_option maxHeartbeats 1000000 in
theorem own_k (p : Pg) (c d : Cfg) (l : List (Int × Bool)) (i t : Nat) (th : Th) (hth : c.ths[t]? = some th) (htd : d.ths[t]? = some th) (hn : c.ths.length ≤ 8) (hnd : d.ths.length ≤ 8) (hh : th.stk.length ≤ 16) :
    W Try.prog G0 0 (.loop (lp Try.f13 2)) (fun e s' => e = .exit 4 ∧ s' = ⟨soS l i (soX t), soB p c d⟩) ⟨soS l i (soX t ++ [(13, .i (.int .i64 0))]), soB p c d⟩ := by
  have htl := lt_some hth
  have htl2 := lt_some htd
  refine W.weak (loop_ok (α := Nat) (fun j => ⟨soS l i (soX t ++ [(13, .i (.int .i64 j))]), soB p c d⟩)
    (fun j => j ≤ th.stk.length) (fun j => th.stk.length - j) 0 (Nat.zero_le _) (Le.refl _ _) (fun j hj => wpx_ok (own := own0) _ _ _ ?_))
  repeat ((conv => whnf); first | refine Br.t ?_ | refine Br.f ?_ | refine ⟨rfl, ?_⟩)
  conv => whnf
  rw [stkI_get hth]
  refine ⟨⟨by omega, by simp; omega, rfl⟩, ?_⟩
  repeat ((conv => whnf); first | refine Br.t ?_ | refine Br.f ?_ | refine ⟨rfl, ?_⟩)
  conv => whnf
  refine Br.mk (fun g => ?_) (fun g => ?_)
  · have g : j < th.stk.length := by simpa using g
    obtain ⟨x, hx⟩ : ∃ x, x = th.stk[j] := ⟨_, rfl⟩
    have ex : (th.stk.map encFr).getD (j : Int).toNat [] = encFr x := by rw [hx]; exact getD_enc g
    repeat ((conv => whnf); first | refine Br.t ?_ | refine Br.f ?_ | refine ⟨rfl, ?_⟩)
    conv => whnf
    refine draw_ok (own := own0) [] [] [] rfl (by kernel_rfl) (Nat.zero_le _) ?_
    repeat ((conv => whnf); first | refine Br.t ?_ | refine Br.f ?_ | refine ⟨rfl, ?_⟩)
    conv => whnf
    rw [stkI_get hth]
    refine ⟨⟨by omega, by simp; omega, rfl⟩, ?_⟩
    repeat ((conv => whnf); first | refine Br.t ?_ | refine Br.f ?_ | refine ⟨rfl, ?_⟩)
    conv => whnf
    rw [ex]
    refine ⟨⟨by omega, by simp; omega, rfl⟩, ?_⟩
    repeat ((conv => whnf); first | refine Br.t ?_ | refine Br.f ?_ | refine ⟨rfl, ?_⟩)
    conv => whnf
    rw [stkI_get htd]
    refine ⟨⟨by omega, by simp; omega, rfl⟩, ?_⟩
    repeat ((conv => whnf); first | refine Br.t ?_ | refine Br.f ?_ | refine ⟨rfl, ?_⟩)
    conv => whnf
    rw [ex]
    refine ⟨⟨by omega, by simp; omega, rfl⟩, ?_⟩
    repeat ((conv => whnf); first | refine Br.t ?_ | refine Br.f ?_ | refine ⟨rfl, ?_⟩)
    conv => whnf
    refine ⟨by kernel_rfl, ?_⟩
    repeat ((conv => whnf); first | refine Br.t ?_ | refine Br.f ?_ | refine ⟨rfl, ?_⟩)
    conv => whnf
    refine ⟨by repeat ((conv => whnf); first | exact trivial | refine ⟨rfl, ?_⟩), trivial, ?_⟩
    conv => whnf
    refine Br.mk (fun h => by simp at h) (fun _ => ?_)
    repeat ((conv => whnf); first | refine Br.t ?_ | refine Br.f ?_ | refine ⟨rfl, ?_⟩)
    conv => whnf
    refine ⟨j + 1, by omega, by omega, Le.slots ?_⟩
    simp [leS, mkS, soS, soX]
    exact i64_id (by omega) (by omega)
  · repeat ((conv => whnf); first | refine Br.t ?_ | refine Br.f ?_ | refine ⟨rfl, ?_⟩)
    conv => whnf
    exact ⟨_, Le.slots (by simp [leS, mkS, soS, soX]), rfl, rfl⟩


set_option maxHeartbeats 2000000 in
theorem own_t (p : Pg) (hp : PgOk p) (c : Cfg) (hc : OkC p c) (l : List (Int × Bool)) (hll : l.length ≤ 300) (i : Nat) (hi : i < l.length) (x : Int × Bool) (ex : (l.map encP).getD (i : Int).toNat [] = encP x) :
    W Try.prog G0 0 (.loop (lp Try.f13 1)) (fun e s' => e = .exit 2 ∧ s' = ⟨soS l i [(8, .ptr 2 0 0 0), (10, .ptr 3 0 0 0), (11, .ptr 4 0 0 0)], soB p c (stepC p c x.1 x.2)⟩)
      ⟨soS l i (soX 0), soB p c (stepC p c x.1 x.2)⟩ := by
  have hhe := fun t hne => own_held (t := t) hp hc x.1 x.2 hne
  have hth0 := fun t ht hne => own_th (p := p) (c := c) (t := t) x.1 x.2 ht hne
  have hd : OkC p (stepC p c x.1 x.2) := stepC_ok hp hc _ _
  obtain ⟨d, hdd⟩ : ∃ d, d = stepC p c x.1 x.2 := ⟨_, rfl⟩
  rw [← hdd] at hd ⊢
  simp only [← hdd] at hhe hth0
  have hdn := hd.n.2
  have hcn := hc.n.2
  have hpn := hp.n.2
  refine W.weak (loop_ok (α := Nat) (fun t => ⟨soS l i (soX t), soB p c d⟩)
    (fun t => t ≤ c.ths.length) (fun t => c.ths.length - t) 0 (Nat.zero_le _) (Le.refl _ _) (fun t ht => wpx_ok (own := own0) _ _ _ ?_))
  repeat ((conv => whnf); first | refine Br.t ?_ | refine Br.f ?_ | refine ⟨rfl, ?_⟩)
  conv => whnf
  refine Br.mk (fun g => ?_) (fun g => ?_)
  · have g : t < c.ths.length := by simpa using g
    repeat ((conv => whnf); first | refine Br.t ?_ | refine Br.f ?_ | refine ⟨rfl, ?_⟩)
    conv => whnf
    rw [ex]
    refine ⟨⟨by omega, by simp; omega, rfl⟩, ?_⟩
    repeat ((conv => whnf); first | refine Br.t ?_ | refine Br.f ?_ | refine ⟨rfl, ?_⟩)
    conv => whnf
    refine Br.mk (fun hw => ?_) (fun hw => ?_)
    · repeat ((conv => whnf); first | refine Br.t ?_ | refine Br.f ?_ | refine ⟨rfl, ?_⟩)
      conv => whnf
      refine ⟨t + 1, by omega, by omega, Le.slots ?_⟩
      simp [leS, mkS, soS, soX]
      exact i64_id (by omega) (by omega)
    · have hne : (t : Int) ≠ x.1 := by simpa using hw
      obtain ⟨th, hth⟩ : ∃ th, c.ths[t]? = some th := ⟨_, List.getElem?_eq_getElem g⟩
      have htd : d.ths[t]? = some th := by rw [hth0 t g hne]; exact hth
      have htl2 := lt_some htd
      have hh := (hc.th th (List.mem_of_getElem? hth)).h
      have h1 := held_ok c (t : Int) (by omega)
      have h2 := held_ok d (t : Int) (by omega)
      rw [hhe t hne] at h2
      obtain ⟨u, hu⟩ : ∃ u, u = held c (t : Int) := ⟨_, rfl⟩
      rw [← hu] at h1 h2
      repeat ((conv => whnf); first | refine Br.t ?_ | refine Br.f ?_ | refine ⟨rfl, ?_⟩)
      conv => whnf
      refine draw_ok (own := own0) [] [] [(.i (.int .u32 (u : Nat)), soB p c d), (.i (.int .u32 (u : Nat)), soB p c d)] rfl (by kernel_rfl) (Nat.zero_le _) ?_
      repeat ((conv => whnf); first | refine Br.t ?_ | refine Br.f ?_ | refine ⟨rfl, ?_⟩)
      conv => whnf
      rw [stkI_get hth]
      refine ⟨⟨by omega, by simp; omega, rfl⟩, ?_⟩
      repeat ((conv => whnf); first | refine Br.t ?_ | refine Br.f ?_ | refine ⟨rfl, ?_⟩)
      conv => whnf
      rw [stkI_get htd]
      refine ⟨⟨by omega, by simp; omega, rfl⟩, ?_⟩
      repeat ((conv => whnf); first | refine Br.t ?_ | refine Br.f ?_ | refine ⟨rfl, ?_⟩)
      conv => whnf
      refine Br.mk (fun h => by simp at h) (fun _ => ?_)
      repeat ((conv => whnf); first | refine Br.t ?_ | refine Br.f ?_ | refine ⟨rfl, ?_⟩)
      conv => whnf
      rw [slI_get hth]
      refine ⟨⟨by omega, by simp; omega, rfl⟩, ?_⟩
      repeat ((conv => whnf); first | refine Br.t ?_ | refine Br.f ?_ | refine ⟨rfl, ?_⟩)
      conv => whnf
      rw [slI_get htd]
      refine ⟨⟨by omega, by simp; omega, rfl⟩, ?_⟩
      repeat ((conv => whnf); first | refine Br.t ?_ | refine Br.f ?_ | refine ⟨rfl, ?_⟩)
      conv => whnf
      refine Br.mk (fun h => by simp at h) (fun _ => ?_)
      repeat ((conv => whnf); first | refine Br.t ?_ | refine Br.f ?_ | refine ⟨rfl, ?_⟩)
      conv => whnf
      refine ⟨h1.pure _ rfl rfl, ?_⟩
      repeat ((conv => whnf); first | refine Br.t ?_ | refine Br.f ?_ | refine ⟨rfl, ?_⟩)
      conv => whnf
      refine ⟨h2.pure _ rfl rfl, ?_⟩
      repeat ((conv => whnf); first | refine Br.t ?_ | refine Br.f ?_ | refine ⟨rfl, ?_⟩)
      conv => whnf
      refine ⟨by repeat ((conv => whnf); first | exact trivial | refine ⟨rfl, ?_⟩), trivial, ?_⟩
      conv => whnf
      refine Br.mk (fun h => by simp at h) (fun _ => ?_)
      repeat ((conv => whnf); first | refine Br.t ?_ | refine Br.f ?_ | refine ⟨rfl, ?_⟩)
      conv => whnf
      have W2 := own_k p c d l i t th hth htd hcn hdn (by omega)
      refine W.le (Le.slots (sl' := soS l i (soX t ++ [(13, V.i (I.int .i64 0))])) (by simp [leS, mkS, soS, soX])) (W.mono W2 ?_)
      rintro e s' ⟨rfl, rfl⟩
      repeat ((conv => whnf); first | refine Br.t ?_ | refine Br.f ?_ | refine ⟨rfl, ?_⟩)
      conv => whnf
      refine ⟨t + 1, by omega, by omega, Le.slots ?_⟩
      simp [leS, mkS, soS, soX]
      exact i64_id (by omega) (by omega)
  · have g : t = c.ths.length := by simp at g; omega
    repeat ((conv => whnf); first | refine Br.t ?_ | refine Br.f ?_ | refine ⟨rfl, ?_⟩)
    conv => whnf
    exact ⟨_, Le.slots (by simp [leS, mkS, soS, soX]), rfl, rfl⟩
set_option maxHeartbeats 4000000 in
theorem semown (p : Pg) (hp0 : okPg p) (l : List (Int × Bool)) (hl : okL l) : CallW Try.prog G0 13 [pgV p, .i (.sl (l.map encP))] [] (fun r st' => r = .i (.bool true) ∧ st' = []) := by
  refine call_of_bodyF 0 (Nat.le_refl _) Try.func13 rfl (fun a w => Try.call13 a w) (wpx_ok (own := own0) _ _ _ ?_)
  unfold okL at hl
  repeat ((conv => whnf); first | refine Br.t ?_ | refine Br.f ?_ | refine ⟨rfl, ?_⟩)
  conv => whnf
  refine CallW.mono (semawake.pure _ rfl rfl) ?_
  rintro r st' ⟨rfl, rfl⟩
  repeat ((conv => whnf); first | refine Br.t ?_ | refine Br.f ?_ | refine ⟨rfl, ?_⟩)
  conv => whnf
  refine CallW.mono ((small16 p hp0).pure _ rfl rfl) ?_
  rintro r st' ⟨rfl, rfl⟩
  repeat ((conv => whnf); first | refine Br.t ?_ | refine Br.f ?_ | refine ⟨rfl, ?_⟩)
  conv => whnf
  refine Br.mk (fun z => ?_) (fun z => ?_)
  · repeat ((conv => whnf); first | refine Br.t ?_ | refine Br.f ?_ | refine ⟨rfl, ?_⟩)
    conv => whnf
    refine CallW.mono (semawake.pure _ rfl rfl) ?_
    rintro r st' ⟨rfl, rfl⟩
    repeat ((conv => whnf); first | refine Br.t ?_ | refine Br.f ?_ | refine ⟨rfl, ?_⟩)
    conv => whnf
    refine fin (target := []) rfl (Nat.zero_le _) (by simp) rfl rfl
  repeat ((conv => whnf); first | refine Br.t ?_ | refine Br.f ?_ | refine ⟨rfl, ?_⟩)
  conv => whnf
  refine Br.mk (fun z2 => ?_) (fun z2 => ?_)
  · repeat ((conv => whnf); first | refine Br.t ?_ | refine Br.f ?_ | refine ⟨rfl, ?_⟩)
    conv => whnf
    refine CallW.mono (semawake.pure _ rfl rfl) ?_
    rintro r st' ⟨rfl, rfl⟩
    repeat ((conv => whnf); first | refine Br.t ?_ | refine Br.f ?_ | refine ⟨rfl, ?_⟩)
    conv => whnf
    refine fin (target := []) rfl (Nat.zero_le _) (by simp) rfl rfl
  have hll : l.length ≤ 300 := by simp at z2; omega
  repeat ((conv => whnf); first | refine Br.t ?_ | refine Br.f ?_ | refine ⟨rfl, ?_⟩)
  conv => whnf
  refine CallW.mono ((start_ok p hp0).pure _ rfl rfl) ?_
  rintro r st' ⟨rfl, rfl⟩
  repeat ((conv => whnf); first | refine Br.t ?_ | refine Br.f ?_ | refine ⟨rfl, ?_⟩)
  conv => whnf
  refine Br.mk (fun z3 => ?_) (fun z3 => ?_)
  · have h0 : ¬ (chk p).2.2 = 0 := by simpa using z3
    have es : startC p = cfgZ := by unfold startC; rw [if_neg h0]
    rw [es]
    repeat ((conv => whnf); first | refine Br.t ?_ | refine Br.f ?_ | refine ⟨rfl, ?_⟩)
    conv => whnf
    refine fin (target := []) rfl (Nat.zero_le _) (by simp) rfl rfl
  · have h0 : (chk p).2.2 = 0 := by simpa using z3
    have hp := chk_zero h0
    have es : startC p = cfg0 := by unfold startC; rw [if_pos h0]
    rw [es, h0]
    repeat ((conv => whnf); first | refine Br.t ?_ | refine Br.f ?_ | refine ⟨rfl, ?_⟩)
    conv => whnf
    refine loop_ok (α := Nat) (fun i => ⟨soS l i [], [pgB p, cfgB (runC p cfg0 (l.take i))]⟩)
      (fun i => i ≤ l.length) (fun i => l.length - i) 0 (Nat.zero_le _) (Le.slots (by simp [leS, mkS, soS])) (fun i hi => wpx_ok (own := own0) _ _ _ ?_)
    have hc : OkC p (runC p cfg0 (l.take i)) := runC_ok hp _ (cfg0_ok hp)
    obtain ⟨c, hcc⟩ : ∃ c, c = runC p cfg0 (l.take i) := ⟨_, rfl⟩
    rw [← hcc] at hc ⊢
    repeat ((conv => whnf); first | refine Br.t ?_ | refine Br.f ?_ | refine ⟨rfl, ?_⟩)
    conv => whnf
    refine Br.mk (fun g => ?_) (fun g => ?_)
    · have g : i < l.length := by simpa using g
      obtain ⟨x, hx⟩ : ∃ x, l[i]? = some x := ⟨_, List.getElem?_eq_getElem g⟩
      have ex : (l.map encP).getD (i : Int).toNat [] = encP x := by rw [Int.toNat_natCast]; simp [List.getD_eq_getElem?_getD, hx]
      have cpl := plain_ok p hp c hc
      have ce := enabled_ok p hp c hc x.1
      have hno := step_no (p := p) (c := c) x.1 x.2
      have cs := semstep p hp c hc x.1 x.2
      have cr := rsame_refl p hp c hc
      have W1 := own_t p hp c hc l hll i g x ex
      have hd := stepC_ok hp hc x.1 x.2
      have hrun := run_snoc p cfg0 l i x hx
      rw [← hcc] at hrun
      obtain ⟨d, hdd⟩ : ∃ d, d = stepC p c x.1 x.2 := ⟨_, rfl⟩
      obtain ⟨q, hq⟩ : ∃ q, q = enab p c x.1 := ⟨_, rfl⟩
      rw [← hdd] at cs hrun W1 hd hno
      rw [← hq] at ce hno
      have cpd := plain_ok p hp d hd
      repeat ((conv => whnf); first | refine Br.t ?_ | refine Br.f ?_ | refine ⟨rfl, ?_⟩)
      conv => whnf
      refine CallW.mono (cpl.pure _ rfl rfl) ?_
      rintro r st' ⟨rfl, rfl⟩
      repeat ((conv => whnf); first | refine Br.t ?_ | refine Br.f ?_ | refine ⟨rfl, ?_⟩)
      conv => whnf
      refine draw_ok (own := own0) [] [] [(.i (.bool q), [pgB p, cfgB c, rcB c])] rfl (by kernel_rfl) (Nat.zero_le _) ?_
      repeat ((conv => whnf); first | refine Br.t ?_ | refine Br.f ?_ | refine ⟨rfl, ?_⟩)
      conv => whnf
      rw [ex]
      refine ⟨⟨by omega, by simp; omega, rfl⟩, ?_⟩
      repeat ((conv => whnf); first | refine Br.t ?_ | refine Br.f ?_ | refine ⟨rfl, ?_⟩)
      conv => whnf
      refine ⟨ce.pure _ rfl rfl, ?_⟩
      repeat ((conv => whnf); first | refine Br.t ?_ | refine Br.f ?_ | refine ⟨rfl, ?_⟩)
      conv => whnf
      refine ⟨by repeat ((conv => whnf); first | exact trivial | refine ⟨rfl, ?_⟩), trivial, ?_⟩
      conv => whnf
      repeat ((conv => whnf); first | refine Br.t ?_ | refine Br.f ?_ | refine ⟨rfl, ?_⟩)
      conv => whnf
      refine draw_okG (own := own0) [7, 8] [(6, 8)] [(0, 8), (1, 8), (2, 8), (3, 8), (4, 8), (5, 8)] [(cfgV d, [pgB p, cfgB c, rcB c])] rfl (by kernel_rfl) (by kernel_rfl) (Nat.zero_le _) ?_
      repeat ((conv => whnf); first | refine Br.t ?_ | refine Br.f ?_ | refine ⟨rfl, ?_⟩)
      conv => whnf
      rw [ex]
      refine ⟨⟨by omega, by simp; omega, rfl⟩, ?_⟩
      repeat ((conv => whnf); first | refine Br.t ?_ | refine Br.f ?_ | refine ⟨rfl, ?_⟩)
      conv => whnf
      refine ⟨cs.pure _ rfl rfl, ?_⟩
      repeat ((conv => whnf); first | refine Br.t ?_ | refine Br.f ?_ | refine ⟨rfl, ?_⟩)
      conv => whnf
      refine ⟨by repeat ((conv => whnf); first | exact trivial | refine ⟨rfl, ?_⟩), ?_, by repeat ((conv => whnf); first | exact trivial | refine ⟨⟨_, rfl⟩, ?_⟩), ?_⟩
      · conv => whnf
        refine ⟨?_, trivial⟩
        conv => whnf
        exact cs.pure _ rfl rfl
      conv => whnf
      repeat ((conv => whnf); first | refine Br.t ?_ | refine Br.f ?_ | refine ⟨rfl, ?_⟩)
      conv => whnf
      refine draw_ok (own := own0) [] [] [(rcV c, [pgB p, cfgB c, rcB c, cfgB d]), (.i (.bool true), [pgB p, cfgB c, rcB c, cfgB d])] rfl (by kernel_rfl) (Nat.zero_le _) ?_
      repeat ((conv => whnf); first | refine Br.t ?_ | refine Br.f ?_ | refine ⟨rfl, ?_⟩)
      conv => whnf
      refine ⟨cpl.pure _ rfl rfl, ?_⟩
      repeat ((conv => whnf); first | refine Br.t ?_ | refine Br.f ?_ | refine ⟨rfl, ?_⟩)
      conv => whnf
      refine ⟨cr.pure _ rfl rfl, ?_⟩
      repeat ((conv => whnf); first | refine Br.t ?_ | refine Br.f ?_ | refine ⟨rfl, ?_⟩)
      conv => whnf
      refine ⟨by repeat ((conv => whnf); first | exact trivial | refine ⟨rfl, ?_⟩), trivial, ?_⟩
      conv => whnf
      cases q with
      | true =>
        repeat ((conv => whnf); first | refine Br.t ?_ | refine Br.f ?_ | refine ⟨rfl, ?_⟩)
        conv => whnf
        refine CallW.mono (cpd.pure _ rfl rfl) ?_
        rintro r st' ⟨rfl, rfl⟩
        repeat ((conv => whnf); first | refine Br.t ?_ | refine Br.f ?_ | refine ⟨rfl, ?_⟩)
        conv => whnf
        refine W.le (s' := ⟨soS l i (soX 0), soB p c d⟩) (Le.slots (by simp [leS, mkS, soS, soX])) (W.mono W1 ?_)
        rintro e s' ⟨rfl, rfl⟩
        repeat ((conv => whnf); first | refine Br.t ?_ | refine Br.f ?_ | refine ⟨rfl, ?_⟩)
        conv => whnf
        refine ⟨i + 1, by omega, by omega, ?_⟩
        rw [hrun]
        refine Le.back (fun _ => 0) (by intro id hid; rfl) (by simp) rfl (B2_cl p d _) ?_ rfl
        simp [leS, mkS, soS, V.up]
        exact i64_id (by omega) (by omega)
      | false =>
        have hdc := hno rfl
        have c2 : CallW Try.prog G0 45 [cfgV c, cfgV d] [] (fun r st' => r = .i (.bool true) ∧ st' = []) := by rw [hdc]; exact same_refl p hp c hc
        repeat ((conv => whnf); first | refine Br.t ?_ | refine Br.f ?_ | refine ⟨rfl, ?_⟩)
        conv => whnf
        refine CallW.mono (c2.pure _ rfl rfl) ?_
        rintro r st' ⟨rfl, rfl⟩
        repeat ((conv => whnf); first | refine Br.t ?_ | refine Br.f ?_ | refine ⟨rfl, ?_⟩)
        conv => whnf
        refine CallW.mono (cpd.pure _ rfl rfl) ?_
        rintro r st' ⟨rfl, rfl⟩
        repeat ((conv => whnf); first | refine Br.t ?_ | refine Br.f ?_ | refine ⟨rfl, ?_⟩)
        conv => whnf
        refine W.le (s' := ⟨soS l i (soX 0), soB p c d⟩) (Le.slots (by simp [leS, mkS, soS, soX])) (W.mono W1 ?_)
        rintro e s' ⟨rfl, rfl⟩
        repeat ((conv => whnf); first | refine Br.t ?_ | refine Br.f ?_ | refine ⟨rfl, ?_⟩)
        conv => whnf
        refine ⟨i + 1, by omega, by omega, ?_⟩
        rw [hrun]
        refine Le.back (fun _ => 0) (by intro id hid; rfl) (by simp) rfl (B2_cl p d _) ?_ rfl
        simp [leS, mkS, soS, V.up]
        exact i64_id (by omega) (by omega)
    · repeat ((conv => whnf); first | refine Br.t ?_ | refine Br.f ?_ | refine ⟨rfl, ?_⟩)
      conv => whnf
      refine fin (target := []) rfl (Nat.zero_le _) (by simp) rfl rfl
end Go.Proofs.Ytiikndppckjmhaa.Am

/- Contracts: who stands at an access, who races, who does first. -/
namespace Go.Proofs.Ytiikndppckjmhaa.Am
set_option autoImplicit false
set_option linter.unusedVariables false
set_option linter.unusedSimpArgs false
set_option maxRecDepth 10000
set_option pp.maxSteps 3000
set_option pp.proofs false
theorem accessN (n : Nd) : CallW Try.prog G0 88 [ndV n] [] (fun r st' => r = .tup [.i (.int .i64 n.2.1), .i (.bool (decide (n.1 = 2))), .i (.bool (decide (n.1 = 1) || decide (n.1 = 2)))] ∧ st' = []) := by
  refine call_of_bodyF 0 (Nat.le_refl _) Try.func88 rfl (fun a w => Try.call88 a w) (wpx_ok (own := own0) _ _ _ ?_)
  repeat ((conv => whnf); first | refine Br.t ?_ | refine Br.f ?_ | refine ⟨rfl, ?_⟩)
  conv => whnf
  refine draw_ok (own := own0) [] [] [] rfl (by kernel_rfl) (Nat.zero_le _) ?_
  repeat ((conv => whnf); first | refine Br.t ?_ | refine Br.f ?_ | refine ⟨rfl, ?_⟩)
  conv => whnf
  refine Br.mk (fun h => ?_) (fun h => ?_)
  · repeat ((conv => whnf); first | refine Br.t ?_ | refine Br.f ?_ | refine ⟨rfl, ?_⟩)
    conv => whnf
    refine ⟨by repeat ((conv => whnf); first | exact trivial | refine ⟨rfl, ?_⟩), trivial, ?_⟩
    conv => whnf
    refine fin (target := []) rfl (Nat.zero_le _) (by simp) ?_ rfl
    simp at h
    simp [h]
  · repeat ((conv => whnf); first | refine Br.t ?_ | refine Br.f ?_ | refine ⟨rfl, ?_⟩)
    conv => whnf
    refine ⟨by repeat ((conv => whnf); first | exact trivial | refine ⟨rfl, ?_⟩), trivial, ?_⟩
    conv => whnf
    refine fin (target := []) rfl (Nat.zero_le _) (by simp) ?_ rfl
    simp at h
    simp [h]
    rfl
abbrev Tc := Nat × Int × Bool
def encT (x : Tc) : List I := [.int .i64 (x.1 : Nat), .int .i64 x.2.1, .bool x.2.2]
def tcV (x : Tc) : V := .agg ((encT x).map .i)
def tcB (x : Tc) : Ob := .row 0 3 false [(encT x).map .i]
def isAcc (p : Pg) (c : Cfg) (t : Nat) : Bool := lives c (t : Int) && (decide ((atN p c t).1 = 1) || decide ((atN p c t).1 = 2))
def touchL (p : Pg) (c : Cfg) : Nat → List Tc
  | 0 => []
  | t + 1 => touchL p c t ++ if isAcc p c t = true then [(t, (atN p c t).2.1, decide ((atN p c t).1 = 2))] else []
def touches (p : Pg) (c : Cfg) : List Tc := touchL p c c.ths.length
theorem touchL_len (p : Pg) (c : Cfg) : ∀ t, (touchL p c t).length ≤ t
  | 0 => Nat.le_refl _
  | t + 1 => by
    have := touchL_len p c t
    rw [touchL, List.length_append]
    split
    · simp; omega
    · simp; omega
def tcR (L : List Tc) : Ob := .row 1 3 false (lift (L.map encT))
theorem tcR_cl (p : Pg) (c : Cfg) (L : List Tc) (m : Nat) : ∀ o ∈ [pgB p, cfgB c, tcR L], o.cl m := by
  intro o ho
  simp only [List.mem_cons, List.not_mem_nil, or_false] at ho
  rcases ho with rfl | rfl | rfl
  · exact pgB_cl p m
  · exact cfgB_cl c m
  · exact row_cl 1 3 (L.map encT) m _ (by simp [tcR])
def tcS (c : Cfg) (L : List Tc) (t : Nat) : List V := mkS 44 [(2, .ptr 0 0 0 0), (3, .ptr 1 0 0 0), (5, .ref 2 1 0 L.length), (14, .i (.int .i64 c.ths.length)), (15, .i (.int .i64 t))]
set_option maxHeartbeats 1000000 in
theorem touches_ok (p : Pg) (hp : PgOk p) (c : Cfg) (hc : OkC p c) : CallW Try.prog G0 47 [pgV p, cfgV c] [] (fun r st' => r = .i (.sl ((touches p c).map encT)) ∧ st' = []) := by
  refine call_of_bodyF 0 (Nat.le_refl _) Try.func47 rfl (fun a w => Try.call47 a w) (wpx_ok (own := own0) _ _ _ ?_)
  have hn := hc.n.2
  repeat ((conv => whnf); first | refine Br.t ?_ | refine Br.f ?_ | refine ⟨rfl, ?_⟩)
  conv => whnf
  refine loop_ok (α := Nat) (fun t => ⟨tcS c (touchL p c t) t, [pgB p, cfgB c, tcR (touchL p c t)]⟩)
    (fun t => t ≤ c.ths.length) (fun t => c.ths.length - t) 0 (Nat.zero_le _) ((Le.nil (n := 0) 5 3 rfl).trans (Le.slots (by simp [leS, mkS, tcS, touchL]))) (fun t ht => wpx_ok (own := own0) _ _ _ ?_)
  have hL := touchL_len p c t
  repeat ((conv => whnf); first | refine Br.t ?_ | refine Br.f ?_ | refine ⟨rfl, ?_⟩)
  conv => whnf
  refine Br.mk (fun g => ?_) (fun g => ?_)
  · have g : t < c.ths.length := by simpa using g
    have ca := at_ok p hp c hc (t : Int)
    obtain ⟨y, hy⟩ : ∃ y, y = atN p c t := ⟨_, rfl⟩
    obtain ⟨q, hq⟩ : ∃ q, q = lives c (t : Int) := ⟨_, rfl⟩
    have eT : touchL p c (t + 1) = touchL p c t ++ if (q && (decide (y.1 = 1) || decide (y.1 = 2))) = true then [(t, y.2.1, decide (y.1 = 2))] else [] := by rw [touchL, isAcc, hy, hq]
    rw [← hy, ← hq] at ca
    have cx := accessN y
    obtain ⟨a, ha⟩ : ∃ a, a = (decide (y.1 = 1) || decide (y.1 = 2)) := ⟨_, rfl⟩
    rw [← ha] at cx eT
    repeat ((conv => whnf); first | refine Br.t ?_ | refine Br.f ?_ | refine ⟨rfl, ?_⟩)
    conv => whnf
    refine CallW.mono (ca.pure _ rfl rfl) ?_
    rintro r st' ⟨rfl, rfl⟩
    repeat ((conv => whnf); first | refine Br.t ?_ | refine Br.f ?_ | refine ⟨rfl, ?_⟩)
    conv => whnf
    refine CallW.mono (cx.pure _ rfl rfl) ?_
    rintro r st' ⟨rfl, rfl⟩
    cases q with
    | false =>
      rw [Bool.false_and, if_neg (by simp), List.append_nil] at eT
      repeat ((conv => whnf); first | refine Br.t ?_ | refine Br.f ?_ | refine ⟨rfl, ?_⟩)
      conv => whnf
      refine ⟨t + 1, by omega, by omega, Le.back (fun _ => 0) (by intro id hid; rfl) (by simp) rfl (tcR_cl p c _ _) ?_ ?_⟩
      · rw [eT]
        simp [leS, mkS, tcS, V.up]
        exact i64_id (by omega) (by omega)
      · rw [eT]
        simp only [upSt, Ob.up, map_up_lift, tcR]
        rfl
    | true =>
      cases a with
      | false =>
        rw [Bool.true_and, if_neg (by simp), List.append_nil] at eT
        repeat ((conv => whnf); first | refine Br.t ?_ | refine Br.f ?_ | refine ⟨rfl, ?_⟩)
        conv => whnf
        refine ⟨t + 1, by omega, by omega, Le.back (fun _ => 0) (by intro id hid; rfl) (by simp) rfl (tcR_cl p c _ _) ?_ ?_⟩
        · rw [eT]
          simp [leS, mkS, tcS, V.up]
          exact i64_id (by omega) (by omega)
        · rw [eT]
          simp only [upSt, Ob.up, map_up_lift, tcR]
          rfl
      | true =>
        rw [Bool.true_and, if_pos rfl] at eT
        repeat ((conv => whnf); first | refine Br.t ?_ | refine Br.f ?_ | refine ⟨rfl, ?_⟩)
        conv => whnf
        refine ⟨⟨by intro cs hcs; simp at hcs; subst hcs; rfl, by simp [lift], by show ((touchL p c t).length + 1) * 24 ≤ _; omega, len_mx (by simp [lift]; omega)⟩, ?_⟩
        repeat ((conv => whnf); first | refine Br.t ?_ | refine Br.f ?_ | refine ⟨rfl, ?_⟩)
        conv => whnf
        refine ⟨t + 1, by omega, by omega, Le.back (fun id => if id = 2 then 1 else 0) (by intro id hid; simp at hid) (by simp) rfl (tcR_cl p c _ _) ?_ ?_⟩
        · rw [eT]
          simp [leS, mkS, tcS, V.up, lift]
          exact i64_id (by omega) (by omega)
        · rw [eT]
          simp only [upSt, Ob.up, map_up_lift, List.map_append, lift_app, tcR, List.cons_append, List.nil_append]
          rfl
  · have g : t = c.ths.length := by simp at g; omega
    subst g
    repeat ((conv => whnf); first | refine Br.t ?_ | refine Br.f ?_ | refine ⟨rfl, ?_⟩)
    conv => whnf
    refine ⟨Nat.zero_le _, rfl, (touches p c).map encT, rfl, ?_⟩
    refine fin (target := []) rfl (Nat.zero_le _) (by simp) ?_ rfl
    simp [touches, List.take_of_length_le]
def agB (x y : Tc) : Bool := decide (x.1 ≠ y.1) && (decide (x.2.1 = y.2.1) && (x.2.2 || y.2.2))
theorem against_ok (x y : Tc) : CallW Try.prog G0 84 [tcV x, tcV y] [] (fun r st' => r = .i (.bool (agB x y)) ∧ st' = []) := by
  refine call_of_bodyF 0 (Nat.le_refl _) Try.func84 rfl (fun a w => Try.call84 a w) (wpx_ok (own := own0) _ _ _ ?_)
  obtain ⟨x1, x2, x3⟩ := x
  obtain ⟨y1, y2, y3⟩ := y
  repeat ((conv => whnf); first | refine Br.t ?_ | refine Br.f ?_ | refine ⟨rfl, ?_⟩)
  conv => whnf
  refine Br.mk (fun h => ?_) (fun h => ?_)
  · have u1 : x1 ≠ y1 := by simp at h; omega
    repeat ((conv => whnf); first | refine Br.t ?_ | refine Br.f ?_ | refine ⟨rfl, ?_⟩)
    conv => whnf
    refine Br.mk (fun h2 => ?_) (fun h2 => ?_)
    · have u2 : x2 = y2 := by simpa using h2
      cases x3 with
      | true =>
        repeat ((conv => whnf); first | refine Br.t ?_ | refine Br.f ?_ | refine ⟨rfl, ?_⟩)
        conv => whnf
        refine fin (target := []) rfl (Nat.zero_le _) (by simp) ?_ rfl
        simp [agB, u1, u2]
      | false =>
        repeat ((conv => whnf); first | refine Br.t ?_ | refine Br.f ?_ | refine ⟨rfl, ?_⟩)
        conv => whnf
        refine fin (target := []) rfl (Nat.zero_le _) (by simp) ?_ rfl
        simp [agB, u1, u2]
    · have u2 : x2 ≠ y2 := by simpa using h2
      repeat ((conv => whnf); first | refine Br.t ?_ | refine Br.f ?_ | refine ⟨rfl, ?_⟩)
      conv => whnf
      refine fin (target := []) rfl (Nat.zero_le _) (by simp) ?_ rfl
      simp [agB, u1, u2]
  · have u1 : x1 = y1 := by simp at h; omega
    repeat ((conv => whnf); first | refine Br.t ?_ | refine Br.f ?_ | refine ⟨rfl, ?_⟩)
    conv => whnf
    refine fin (target := []) rfl (Nat.zero_le _) (by simp) ?_ rfl
    simp [agB, u1]
def firstR : List Tc → Option (Tc × Tc)
  | [] => none
  | x :: r => match r.find? (fun y => agB x y) with | some y => some (x, y) | none => firstR r
def firstT (o : Option (Tc × Tc)) : List V := match o with
  | some (x, y) => [.i (.int .i64 (x.1 : Nat)), .i (.int .i64 (y.1 : Nat)), .i (.int .i64 x.2.1), .i (.bool true)]
  | none => [.i (.int .i64 0), .i (.int .i64 0), .i (.int .i64 0), .i (.bool false)]
def fsS (L : List Tc) (i : Nat) (x : List (Nat × V)) : List V := mkS 43 ([(2, .ptr 0 0 0 0), (3, .ptr 1 0 0 0), (8, .i (.sl (L.map encT))), (16, .i (.sl (L.map encT))), (17, .i (.int .i64 L.length)), (18, .i (.int .i64 i))] ++ x)
theorem fsB_cl (p : Pg) (c : Cfg) (x : Tc) (m : Nat) : ∀ o ∈ [pgB p, cfgB c, tcB x], o.cl m := by
  intro o ho
  simp only [List.mem_cons, List.not_mem_nil, or_false] at ho
  rcases ho with rfl | rfl | rfl
  · exact pgB_cl p m
  · exact cfgB_cl c m
  · intro cs hcs; simp only [List.mem_singleton] at hcs; subst hcs; rfl
set_option maxHeartbeats 1000000 in
theorem first_in (p : Pg) (c : Cfg) (L : List Tc) (i : Nat) (x : Tc) (r : List Tc) (hr : r.length ≤ 8) (Q : Exit → S → Prop)
    (hyes : ∀ y, r.find? (fun y => agB x y) = some y → Q .ret ⟨mkS 43 [(4, .i (.int .i64 (x.1 : Nat))), (5, .i (.int .i64 (y.1 : Nat))), (6, .i (.int .i64 x.2.1)), (7, .i (.bool true))], [pgB p, cfgB c]⟩)
    (hno : r.find? (fun y => agB x y) = none → Q (.exit 2) ⟨fsS L i [], [pgB p, cfgB c]⟩) :
    W Try.prog G0 0 (.loop (lp Try.f44 1)) Q ⟨fsS L i [(10, .ptr 2 0 0 0), (26, .i (.sl (r.map encT))), (27, .i (.int .i64 r.length)), (28, .i (.int .i64 0))], [pgB p, cfgB c, tcB x]⟩ := by
  refine W.weak (loop_ok (α := Nat) (fun j => ⟨fsS L i [(10, .ptr 2 0 0 0), (26, .i (.sl (r.map encT))), (27, .i (.int .i64 r.length)), (28, .i (.int .i64 j))], [pgB p, cfgB c, tcB x]⟩)
    (fun j => j ≤ r.length ∧ (r.drop j).find? (fun y => agB x y) = r.find? fun y => agB x y) (fun j => r.length - j) 0 ⟨Nat.zero_le _, rfl⟩ (Le.refl _ _) (fun j hj => wpx_ok (own := own0) _ _ _ ?_))
  obtain ⟨h1, h2⟩ := hj
  repeat ((conv => whnf); first | refine Br.t ?_ | refine Br.f ?_ | refine ⟨rfl, ?_⟩)
  conv => whnf
  refine Br.mk (fun g => ?_) (fun g => ?_)
  · have g : j < r.length := by simpa using g
    obtain ⟨y, hy⟩ : ∃ y, y = r[j] := ⟨_, rfl⟩
    have ey : (r.map encT).getD (j : Int).toNat [] = encT y := by rw [hy]; exact getD_enc g
    have ed : r.drop j = y :: r.drop (j + 1) := by rw [hy]; exact List.drop_eq_getElem_cons g
    rw [ed, List.find?_cons] at h2
    have cg := against_ok x y
    obtain ⟨q, hq⟩ : ∃ q, q = agB x y := ⟨_, rfl⟩
    rw [← hq] at cg h2
    repeat ((conv => whnf); first | refine Br.t ?_ | refine Br.f ?_ | refine ⟨rfl, ?_⟩)
    conv => whnf
    rw [ey]
    refine ⟨⟨by omega, by simp; omega, rfl⟩, ?_⟩
    repeat ((conv => whnf); first | refine Br.t ?_ | refine Br.f ?_ | refine ⟨rfl, ?_⟩)
    conv => whnf
    refine CallW.mono (cg.pure _ rfl rfl) ?_
    rintro r0 st' ⟨rfl, rfl⟩
    cases q with
    | true =>
      simp only at h2
      repeat ((conv => whnf); first | refine Br.t ?_ | refine Br.f ?_ | refine ⟨rfl, ?_⟩)
      conv => whnf
      refine draw_ok (own := own0) [] [] [] rfl (by kernel_rfl) (Nat.zero_le _) ?_
      repeat ((conv => whnf); first | refine Br.t ?_ | refine Br.f ?_ | refine ⟨rfl, ?_⟩)
      conv => whnf
      refine ⟨by repeat ((conv => whnf); first | exact trivial | refine ⟨rfl, ?_⟩), trivial, ?_⟩
      conv => whnf
      repeat ((conv => whnf); first | refine Br.t ?_ | refine Br.f ?_ | refine ⟨rfl, ?_⟩)
      conv => whnf
      refine ⟨_, Le.back (s := ⟨mkS 43 [(4, .i (.int .i64 (x.1 : Nat))), (5, .i (.int .i64 (y.1 : Nat))), (6, .i (.int .i64 x.2.1)), (7, .i (.bool true))], [pgB p, cfgB c]⟩) (fun _ => 0) (by intro id hid; rfl) (by simp) rfl (B2_cl p c _) ?_ rfl, hyes y h2.symm⟩
      simp [leS, mkS, fsS, V.up]
    | false =>
      simp only at h2
      repeat ((conv => whnf); first | refine Br.t ?_ | refine Br.f ?_ | refine ⟨rfl, ?_⟩)
      conv => whnf
      refine ⟨j + 1, ⟨by omega, h2⟩, by omega, Le.back (fun _ => 0) (by intro id hid; rfl) (by simp) rfl (fsB_cl p c x _) ?_ rfl⟩
      simp [leS, mkS, fsS, V.up]
      exact i64_id (by omega) (by omega)
  · have g : j = r.length := by simp at g; omega
    subst g
    rw [List.drop_length, List.find?_nil] at h2
    repeat ((conv => whnf); first | refine Br.t ?_ | refine Br.f ?_ | refine ⟨rfl, ?_⟩)
    conv => whnf
    refine ⟨_, Le.back (s := ⟨fsS L i [], [pgB p, cfgB c]⟩) (fun _ => 0) (by intro id hid; rfl) (by simp) rfl (B2_cl p c _) ?_ rfl, hno h2.symm⟩
    simp [leS, mkS, fsS, V.up]
set_option maxHeartbeats 1000000 in
theorem first_ok (p : Pg) (hp : PgOk p) (c : Cfg) (hc : OkC p c) : CallW Try.prog G0 44 [pgV p, cfgV c] [] (fun r st' => r = .tup (firstT (firstR (touches p c))) ∧ st' = []) := by
  refine call_of_bodyF 0 (Nat.le_refl _) Try.func44 rfl (fun a w => Try.call44 a w) (wpx_ok (own := own0) _ _ _ ?_)
  have ct := touches_ok p hp c hc
  have hlen : (touches p c).length ≤ 8 := Nat.le_trans (touchL_len p c _) hc.n.2
  obtain ⟨L, hL⟩ : ∃ L, L = touches p c := ⟨_, rfl⟩
  rw [← hL] at ct hlen ⊢
  repeat ((conv => whnf); first | refine Br.t ?_ | refine Br.f ?_ | refine ⟨rfl, ?_⟩)
  conv => whnf
  refine CallW.mono (ct.pure _ rfl rfl) ?_
  rintro r st' ⟨rfl, rfl⟩
  repeat ((conv => whnf); first | refine Br.t ?_ | refine Br.f ?_ | refine ⟨rfl, ?_⟩)
  conv => whnf
  refine loop_ok (α := Nat) (fun i => ⟨fsS L i [], [pgB p, cfgB c]⟩)
    (fun i => i ≤ L.length ∧ firstR (L.drop i) = firstR L) (fun i => L.length - i) 0 ⟨Nat.zero_le _, rfl⟩ (Le.slots (by simp [leS, mkS, fsS])) (fun i hi => wpx_ok (own := own0) _ _ _ ?_)
  obtain ⟨h1, h2⟩ := hi
  repeat ((conv => whnf); first | refine Br.t ?_ | refine Br.f ?_ | refine ⟨rfl, ?_⟩)
  conv => whnf
  refine Br.mk (fun g => ?_) (fun g => ?_)
  · have g : i < L.length := by simpa using g
    obtain ⟨x, hx⟩ : ∃ x, x = L[i] := ⟨_, rfl⟩
    have ex : (L.map encT).getD (i : Int).toNat [] = encT x := by rw [hx]; exact getD_enc g
    have ed : L.drop i = x :: L.drop (i + 1) := by rw [hx]; exact List.drop_eq_getElem_cons g
    rw [ed, firstR] at h2
    repeat ((conv => whnf); first | refine Br.t ?_ | refine Br.f ?_ | refine ⟨rfl, ?_⟩)
    conv => whnf
    rw [ex]
    refine ⟨⟨by omega, by simp; omega, rfl⟩, ?_⟩
    repeat ((conv => whnf); first | refine Br.t ?_ | refine Br.f ?_ | refine ⟨rfl, ?_⟩)
    conv => whnf
    rw [i64_id (by omega) (by omega)]
    have es : List.take ((((L.map encT).length : Nat) : Int).toNat - ((i : Int) + 1).toNat) (List.drop ((i : Int) + 1).toNat (L.map encT)) = (L.drop (i + 1)).map encT := by
      rw [show ((i : Int) + 1).toNat = i + 1 by omega, List.map_drop, List.take_of_length_le (by simp)]
    rw [es]
    refine ⟨⟨by omega, by simp; omega, Int.le_refl _, by intro cs hcs; simp only [List.mem_map] at hcs; obtain ⟨y, _, rfl⟩ := hcs; rfl⟩, ?_⟩
    repeat ((conv => whnf); first | refine Br.t ?_ | refine Br.f ?_ | refine ⟨rfl, ?_⟩)
    conv => whnf
    refine W.le (Le.slots (sl' := fsS L i [(10, .ptr 2 0 0 0), (26, .i (.sl ((L.drop (i + 1)).map encT))), (27, .i (.int .i64 (L.drop (i + 1)).length)), (28, .i (.int .i64 0))]) (by simp [leS, mkS, fsS])) (first_in p c L i x (L.drop (i + 1)) (by simp; omega) _ (fun y hf => ?_) (fun hf => ?_))
    · rw [hf] at h2
      simp only at h2
      rw [← h2]
      repeat ((conv => whnf); first | refine Br.t ?_ | refine Br.f ?_ | refine ⟨rfl, ?_⟩)
      conv => whnf
      refine fin (target := []) rfl (Nat.zero_le _) (by simp) rfl rfl
    · rw [hf] at h2
      simp only at h2
      repeat ((conv => whnf); first | refine Br.t ?_ | refine Br.f ?_ | refine ⟨rfl, ?_⟩)
      conv => whnf
      refine ⟨i + 1, ⟨by omega, h2⟩, by omega, Le.slots ?_⟩
      simp [leS, mkS, fsS]
      exact i64_id (by omega) (by omega)
  · have g : i = L.length := by simp at g; omega
    subst g
    rw [List.drop_length, firstR] at h2
    rw [← h2]
    repeat ((conv => whnf); first | refine Br.t ?_ | refine Br.f ?_ | refine ⟨rfl, ?_⟩)
    conv => whnf
    refine fin (target := []) rfl (Nat.zero_le _) (by simp) rfl rfl
end Go.Proofs.Ytiikndppckjmhaa.Am

/- Contracts: the example of Race; a program's config behind picks; no lock is two threads'. -/
namespace Go.Proofs.Ytiikndppckjmhaa.Am
set_option autoImplicit false
set_option linter.unusedVariables false
set_option linter.unusedSimpArgs false
set_option maxRecDepth 10000
set_option pp.maxSteps 3000
set_option pp.proofs false
def pTwo : Pg := ⟨1, 0, 1, [[(5, 1, 1, 0), (2, 0, 2, 0), (9, 0, 0, 0)], [(2, 0, 1, 0), (9, 0, 0, 0)]]⟩
theorem chk_pTwo : chk pTwo = (0, 0, 0) := by decide
theorem pTwo_ok : PgOk pTwo := chk_zero (by rw [chk_pTwo])
theorem two_ok : CallW Try.prog G0 83 [] [] (fun r st' => r = pgV pTwo ∧ st' = []) := by
  refine call_of_bodyF 0 (Nat.le_refl _) Try.func83 rfl (fun a w => Try.call83 a w) (wpx_ok (own := own0) _ _ _ ?_)
  repeat ((conv => whnf); first | refine Br.t ?_ | refine Br.f ?_ | refine ⟨rfl, ?_⟩)
  conv => whnf
  refine fin (target := []) rfl (Nat.zero_le _) (by simp) rfl rfl
def cTwo : Cfg := ⟨[⟨[(0, 1)], [2, 0, 0, 0, 0, 0, 0, 0]⟩, ⟨[(1, 0)], [0, 0, 0, 0, 0, 0, 0, 0]⟩], List.replicate 16 0⟩
theorem step_two : stepC pTwo cfg0 0 false = cTwo := by rfl
theorem cTwo_ok : OkC pTwo cTwo := by rw [← step_two]; exact stepC_ok pTwo_ok (cfg0_ok pTwo_ok) 0 false
theorem first_two0 : firstR (touches pTwo cfg0) = none := by rfl
theorem first_two1 : firstR (touches pTwo cTwo) = some ((0, 0, true), (1, 0, true)) := by rfl
set_option maxHeartbeats 2000000 in
theorem raceawake : CallW Try.prog G0 42 [] [] (fun r st' => r = .i (.bool true) ∧ st' = []) := by
  refine call_of_bodyF 0 (Nat.le_refl _) Try.func42 rfl (fun a w => Try.call42 a w) (wpx_ok (own := own0) _ _ _ ?_)
  have c1 := start_ok pTwo (okPg_of' pTwo_ok)
  rw [startC, chk_pTwo, if_pos rfl] at c1
  have c2 := semstep pTwo pTwo_ok cfg0 (cfg0_ok pTwo_ok) 0 false
  rw [step_two] at c2
  have c3 := first_ok pTwo pTwo_ok cfg0 (cfg0_ok pTwo_ok)
  rw [first_two0] at c3
  have c4 := first_ok pTwo pTwo_ok cTwo cTwo_ok
  rw [first_two1] at c4
  repeat ((conv => whnf); first | refine Br.t ?_ | refine Br.f ?_ | refine ⟨rfl, ?_⟩)
  conv => whnf
  refine CallW.mono (two_ok.pure _ rfl rfl) ?_
  rintro r st' ⟨rfl, rfl⟩
  repeat ((conv => whnf); first | refine Br.t ?_ | refine Br.f ?_ | refine ⟨rfl, ?_⟩)
  conv => whnf
  refine CallW.mono (c1.pure _ rfl rfl) ?_
  rintro r st' ⟨rfl, rfl⟩
  repeat ((conv => whnf); first | refine Br.t ?_ | refine Br.f ?_ | refine ⟨rfl, ?_⟩)
  conv => whnf
  refine CallW.mono (c3.pure _ rfl rfl) ?_
  rintro r st' ⟨rfl, rfl⟩
  repeat ((conv => whnf); first | refine Br.t ?_ | refine Br.f ?_ | refine ⟨rfl, ?_⟩)
  conv => whnf
  refine draw_ok (own := own0) [] [] [(cfgV cTwo, [pgB pTwo, cfgB cfg0]), (.tup (firstT (some ((0, 0, true), (1, 0, true)))), [pgB pTwo, cfgB cfg0])] rfl (by kernel_rfl) (Nat.zero_le _) ?_
  repeat ((conv => whnf); first | refine Br.t ?_ | refine Br.f ?_ | refine ⟨rfl, ?_⟩)
  conv => whnf
  refine ⟨c2.pure _ rfl rfl, ?_⟩
  repeat ((conv => whnf); first | refine Br.t ?_ | refine Br.f ?_ | refine ⟨rfl, ?_⟩)
  conv => whnf
  refine ⟨c4.pure _ rfl rfl, ?_⟩
  repeat ((conv => whnf); first | refine Br.t ?_ | refine Br.f ?_ | refine ⟨rfl, ?_⟩)
  conv => whnf
  refine ⟨by repeat ((conv => whnf); first | exact trivial | refine ⟨rfl, ?_⟩), trivial, ?_⟩
  conv => whnf
  repeat ((conv => whnf); first | refine Br.t ?_ | refine Br.f ?_ | refine ⟨rfl, ?_⟩)
  conv => whnf
  refine fin (target := []) rfl (Nat.zero_le _) (by simp) rfl rfl
def runsV (p : Pg) (l : List (Int × Bool)) : V := .tup [cfgV (if (chk p).2.2 = 0 then runC p cfg0 l else cfgZ), .i (.int .i64 (if (chk p).2.2 = 0 then 1 else 0))]
def rnS (l : List (Int × Bool)) (i : Nat) : List V := mkS 31 [(1, .i (.sl (l.map encP))), (2, .ptr 0 0 0 0), (4, .ptr 1 0 0 0), (6, .ptr 2 0 0 0), (8, .i (.int .i64 i))]
set_option maxHeartbeats 2000000 in
theorem runs_ok (p : Pg) (hp0 : okPg p) (l : List (Int × Bool)) (hl : l.length ≤ 1000) : CallW Try.prog G0 43 [pgV p, .i (.sl (l.map encP))] [] (fun r st' => r = runsV p l ∧ st' = []) := by
  refine call_of_bodyF 0 (Nat.le_refl _) Try.func43 rfl (fun a w => Try.call43 a w) (wpx_ok (own := own0) _ _ _ ?_)
  have c0 := start_ok p hp0
  unfold runsV
  by_cases h0 : (chk p).2.2 = 0
  · have hp := chk_zero h0
    have es : startC p = cfg0 := by unfold startC; rw [if_pos h0]
    rw [es, h0] at c0
    rw [if_pos h0, if_pos h0]
    repeat ((conv => whnf); first | refine Br.t ?_ | refine Br.f ?_ | refine ⟨rfl, ?_⟩)
    conv => whnf
    refine CallW.mono (c0.pure _ rfl rfl) ?_
    rintro r st' ⟨rfl, rfl⟩
    repeat ((conv => whnf); first | refine Br.t ?_ | refine Br.f ?_ | refine ⟨rfl, ?_⟩)
    conv => whnf
    refine loop_ok (α := Nat) (fun i => ⟨rnS l i, [pgB p, zeroB, cfgB (runC p cfg0 (l.take i))]⟩)
      (fun i => i ≤ l.length) (fun i => l.length - i) 0 (Nat.zero_le _) (Le.slots (by simp [leS, mkS, rnS])) (fun i hi => wpx_ok (own := own0) _ _ _ ?_)
    have hc : OkC p (runC p cfg0 (l.take i)) := runC_ok hp _ (cfg0_ok hp)
    have hfull : i = l.length → runC p cfg0 (l.take i) = runC p cfg0 l := fun e => by rw [e, List.take_length]
    obtain ⟨c, hcc⟩ : ∃ c, c = runC p cfg0 (l.take i) := ⟨_, rfl⟩
    rw [← hcc] at hc hfull ⊢
    repeat ((conv => whnf); first | refine Br.t ?_ | refine Br.f ?_ | refine ⟨rfl, ?_⟩)
    conv => whnf
    refine Br.mk (fun g => ?_) (fun g => ?_)
    · have g : i < l.length := by simpa using g
      obtain ⟨x, hx⟩ : ∃ x, l[i]? = some x := ⟨_, List.getElem?_eq_getElem g⟩
      have ex : (l.map encP).getD (i : Int).toNat [] = encP x := by rw [Int.toNat_natCast]; simp [List.getD_eq_getElem?_getD, hx]
      have cs := semstep p hp c hc x.1 x.2
      have hrun := run_snoc p cfg0 l i x hx
      rw [← hcc] at hrun
      obtain ⟨d, hdd⟩ : ∃ d, d = stepC p c x.1 x.2 := ⟨_, rfl⟩
      rw [← hdd] at cs hrun
      repeat ((conv => whnf); first | refine Br.t ?_ | refine Br.f ?_ | refine ⟨rfl, ?_⟩)
      conv => whnf
      refine draw_ok (own := own0) [7] [] [(cfgV d, [pgB p, zeroB, cfgB c])] rfl (by kernel_rfl) (Nat.zero_le _) ?_
      repeat ((conv => whnf); first | refine Br.t ?_ | refine Br.f ?_ | refine ⟨rfl, ?_⟩)
      conv => whnf
      rw [ex]
      refine ⟨⟨by omega, by simp; omega, rfl⟩, ?_⟩
      repeat ((conv => whnf); first | refine Br.t ?_ | refine Br.f ?_ | refine ⟨rfl, ?_⟩)
      conv => whnf
      refine ⟨cs.pure _ rfl rfl, ?_⟩
      repeat ((conv => whnf); first | refine Br.t ?_ | refine Br.f ?_ | refine ⟨rfl, ?_⟩)
      conv => whnf
      refine ⟨by repeat ((conv => whnf); first | exact trivial | refine ⟨rfl, ?_⟩), trivial, ?_⟩
      conv => whnf
      repeat ((conv => whnf); first | refine Br.t ?_ | refine Br.f ?_ | refine ⟨rfl, ?_⟩)
      conv => whnf
      refine ⟨i + 1, by omega, by omega, ?_⟩
      rw [hrun]
      refine Le.slots ?_
      simp [leS, mkS, rnS]
      exact i64_id (by omega) (by omega)
    · have g : i = l.length := by simp at g; omega
      rw [hfull g]
      repeat ((conv => whnf); first | refine Br.t ?_ | refine Br.f ?_ | refine ⟨rfl, ?_⟩)
      conv => whnf
      refine fin (target := []) rfl (Nat.zero_le _) (by simp) rfl rfl
  · have es : startC p = cfgZ := by unfold startC; rw [if_neg h0]
    rw [es] at c0
    rw [if_neg h0, if_neg h0]
    repeat ((conv => whnf); first | refine Br.t ?_ | refine Br.f ?_ | refine ⟨rfl, ?_⟩)
    conv => whnf
    refine CallW.mono (c0.pure _ rfl rfl) ?_
    rintro r st' ⟨rfl, rfl⟩
    repeat ((conv => whnf); first | refine Br.t ?_ | refine Br.f ?_ | refine ⟨rfl, ?_⟩)
    conv => whnf
    refine Br.mk (fun _ => ?_) (fun h => ?_)
    · repeat ((conv => whnf); first | refine Br.t ?_ | refine Br.f ?_ | refine ⟨rfl, ?_⟩)
      conv => whnf
      refine fin (target := []) rfl (Nat.zero_le _) (by simp) rfl rfl
    · exact absurd (by simpa using h) h0
theorem held_apart (c : Cfg) {a b : Nat} (h : a ≠ b) : held c (a : Int) &&& held c (b : Int) = 0 := by
  apply Nat.eq_of_testBit_eq
  intro i
  rw [Nat.testBit_and, Nat.zero_testBit, held_bit, held_bit]
  rw [Bool.eq_false_iff]
  intro hh
  rw [Bool.and_eq_true, decide_eq_true_eq, decide_eq_true_eq] at hh
  omega
def rlS (x : List (Nat × V)) : List V := mkS 57 ([(5, .ptr 1 0 0 0)] ++ x)
set_option maxHeartbeats 1000000 in
theorem rl_in (p : Pg) (c : Cfg) (hc : OkC p c) (a : Nat) (ha : a ≤ 1000) :
    W Try.prog G0 0 (.loop (lp Try.f12 1)) (fun e s' => e = .exit 2 ∧ s' = ⟨rlS [(7, .i (.int .i64 a))], [pgB p, cfgB c]⟩) ⟨rlS [(7, .i (.int .i64 a)), (8, .i (.int .i64 0))], [pgB p, cfgB c]⟩ := by
  have hn := hc.n.2
  refine W.weak (loop_ok (α := Nat) (fun b => ⟨rlS [(7, .i (.int .i64 a)), (8, .i (.int .i64 b))], [pgB p, cfgB c]⟩)
    (fun b => b ≤ c.ths.length) (fun b => c.ths.length - b) 0 (Nat.zero_le _) (Le.refl _ _) (fun b hb => wpx_ok (own := own0) _ _ _ ?_))
  repeat ((conv => whnf); first | refine Br.t ?_ | refine Br.f ?_ | refine ⟨rfl, ?_⟩)
  conv => whnf
  refine Br.mk (fun g => ?_) (fun g => ?_)
  · have g : b < c.ths.length := by simpa using g
    by_cases hab : a = b
    · repeat ((conv => whnf); first | refine Br.t ?_ | refine Br.f ?_ | refine ⟨rfl, ?_⟩)
      conv => whnf
      refine draw_ok (own := own0) [] [] [] rfl (by kernel_rfl) (Nat.zero_le _) ?_
      repeat ((conv => whnf); first | refine Br.t ?_ | refine Br.f ?_ | refine ⟨rfl, ?_⟩)
      conv => whnf
      refine Br.mk (fun h => by simp [hab] at h) (fun _ => ?_)
      repeat ((conv => whnf); first | refine Br.t ?_ | refine Br.f ?_ | refine ⟨rfl, ?_⟩)
      conv => whnf
      refine ⟨by repeat ((conv => whnf); first | exact trivial | refine ⟨rfl, ?_⟩), trivial, ?_⟩
      conv => whnf
      repeat ((conv => whnf); first | refine Br.t ?_ | refine Br.f ?_ | refine ⟨rfl, ?_⟩)
      conv => whnf
      refine ⟨b + 1, by omega, by omega, Le.slots ?_⟩
      simp [leS, mkS, rlS]
      exact i64_id (by omega) (by omega)
    · · have h1 := held_ok c (a : Int) (by omega)
        have h2 := held_ok c (b : Int) (by omega)
        have e := and32' (held_lt c (a : Int)) (held_lt c (b : Int))
        rw [held_apart c hab] at e
        obtain ⟨u, hu⟩ : ∃ u, u = held c (a : Int) := ⟨_, rfl⟩
        obtain ⟨v, hv⟩ : ∃ v, v = held c (b : Int) := ⟨_, rfl⟩
        rw [← hu] at h1 e
        rw [← hv] at h2 e
        repeat ((conv => whnf); first | refine Br.t ?_ | refine Br.f ?_ | refine ⟨rfl, ?_⟩)
        conv => whnf
        refine draw_ok (own := own0) [] [] [(.i (.int .u32 (u : Nat)), [pgB p, cfgB c]), (.i (.int .u32 (v : Nat)), [pgB p, cfgB c])] rfl (by kernel_rfl) (Nat.zero_le _) ?_
        repeat ((conv => whnf); first | refine Br.t ?_ | refine Br.f ?_ | refine ⟨rfl, ?_⟩)
        conv => whnf
        refine Br.mk (fun _ => ?_) (fun h => by simp at h; omega)
        repeat ((conv => whnf); first | refine Br.t ?_ | refine Br.f ?_ | refine ⟨rfl, ?_⟩)
        conv => whnf
        refine ⟨h1.pure _ rfl rfl, ?_⟩
        repeat ((conv => whnf); first | refine Br.t ?_ | refine Br.f ?_ | refine ⟨rfl, ?_⟩)
        conv => whnf
        refine ⟨h2.pure _ rfl rfl, ?_⟩
        repeat ((conv => whnf); first | refine Br.t ?_ | refine Br.f ?_ | refine ⟨rfl, ?_⟩)
        conv => whnf
        rw [e]
        repeat ((conv => whnf); first | refine Br.t ?_ | refine Br.f ?_ | refine ⟨rfl, ?_⟩)
        conv => whnf
        refine ⟨by repeat ((conv => whnf); first | exact trivial | refine ⟨rfl, ?_⟩), trivial, ?_⟩
        conv => whnf
        repeat ((conv => whnf); first | refine Br.t ?_ | refine Br.f ?_ | refine ⟨rfl, ?_⟩)
        conv => whnf
        refine ⟨b + 1, by omega, by omega, Le.slots ?_⟩
        simp [leS, mkS, rlS]
        exact i64_id (by omega) (by omega)
  · have g : b = c.ths.length := by simp at g; omega
    repeat ((conv => whnf); first | refine Br.t ?_ | refine Br.f ?_ | refine ⟨rfl, ?_⟩)
    conv => whnf
    exact ⟨_, Le.slots (by simp [leS, mkS, rlS]), rfl, rfl⟩
set_option maxHeartbeats 2000000 in
theorem racelocks (p : Pg) (hp0 : okPg p) (l : List (Int × Bool)) (hl : okL l) : CallW Try.prog G0 12 [pgV p, .i (.sl (l.map encP))] [] (fun r st' => r = .i (.bool true) ∧ st' = []) := by
  refine call_of_bodyF 0 (Nat.le_refl _) Try.func12 rfl (fun a w => Try.call12 a w) (wpx_ok (own := own0) _ _ _ ?_)
  unfold okL at hl
  repeat ((conv => whnf); first | refine Br.t ?_ | refine Br.f ?_ | refine ⟨rfl, ?_⟩)
  conv => whnf
  refine CallW.mono (raceawake.pure _ rfl rfl) ?_
  rintro r st' ⟨rfl, rfl⟩
  repeat ((conv => whnf); first | refine Br.t ?_ | refine Br.f ?_ | refine ⟨rfl, ?_⟩)
  conv => whnf
  refine CallW.mono ((small16 p hp0).pure _ rfl rfl) ?_
  rintro r st' ⟨rfl, rfl⟩
  repeat ((conv => whnf); first | refine Br.t ?_ | refine Br.f ?_ | refine ⟨rfl, ?_⟩)
  conv => whnf
  refine Br.mk (fun z => ?_) (fun z => ?_)
  · repeat ((conv => whnf); first | refine Br.t ?_ | refine Br.f ?_ | refine ⟨rfl, ?_⟩)
    conv => whnf
    refine CallW.mono (raceawake.pure _ rfl rfl) ?_
    rintro r st' ⟨rfl, rfl⟩
    repeat ((conv => whnf); first | refine Br.t ?_ | refine Br.f ?_ | refine ⟨rfl, ?_⟩)
    conv => whnf
    refine fin (target := []) rfl (Nat.zero_le _) (by simp) rfl rfl
  · repeat ((conv => whnf); first | refine Br.t ?_ | refine Br.f ?_ | refine ⟨rfl, ?_⟩)
    conv => whnf
    refine Br.mk (fun z2 => ?_) (fun z2 => ?_)
    · repeat ((conv => whnf); first | refine Br.t ?_ | refine Br.f ?_ | refine ⟨rfl, ?_⟩)
      conv => whnf
      refine CallW.mono (raceawake.pure _ rfl rfl) ?_
      rintro r st' ⟨rfl, rfl⟩
      repeat ((conv => whnf); first | refine Br.t ?_ | refine Br.f ?_ | refine ⟨rfl, ?_⟩)
      conv => whnf
      refine fin (target := []) rfl (Nat.zero_le _) (by simp) rfl rfl
    · have hll : l.length ≤ 300 := by simp at z2; omega
      have cr := runs_ok p hp0 l (by omega)
      unfold runsV at cr
      by_cases h0 : (chk p).2.2 = 0
      · have hp := chk_zero h0
        rw [if_pos h0, if_pos h0] at cr
        have hc : OkC p (runC p cfg0 l) := runC_ok hp _ (cfg0_ok hp)
        obtain ⟨c, hcc⟩ : ∃ c, c = runC p cfg0 l := ⟨_, rfl⟩
        rw [← hcc] at cr hc
        have hn := hc.n.2
        repeat ((conv => whnf); first | refine Br.t ?_ | refine Br.f ?_ | refine ⟨rfl, ?_⟩)
        conv => whnf
        refine CallW.mono (cr.pure _ rfl rfl) ?_
        rintro r st' ⟨rfl, rfl⟩
        repeat ((conv => whnf); first | refine Br.t ?_ | refine Br.f ?_ | refine ⟨rfl, ?_⟩)
        conv => whnf
        refine loop_ok (α := Nat) (fun a => ⟨rlS [(7, .i (.int .i64 a))], [pgB p, cfgB c]⟩)
          (fun a => a ≤ c.ths.length) (fun a => c.ths.length - a) 0 (Nat.zero_le _) (Le.slots (by simp [leS, mkS, rlS])) (fun a ha => wpx_ok (own := own0) _ _ _ ?_)
        repeat ((conv => whnf); first | refine Br.t ?_ | refine Br.f ?_ | refine ⟨rfl, ?_⟩)
        conv => whnf
        refine Br.mk (fun g => ?_) (fun g => ?_)
        · have g : a < c.ths.length := by simpa using g
          repeat ((conv => whnf); first | refine Br.t ?_ | refine Br.f ?_ | refine ⟨rfl, ?_⟩)
          conv => whnf
          refine W.le (s' := ⟨rlS [(7, .i (.int .i64 a)), (8, .i (.int .i64 0))], [pgB p, cfgB c]⟩) (Le.slots (by simp [leS, mkS, rlS])) (W.mono (rl_in p c hc a (by omega)) ?_)
          rintro e s' ⟨rfl, rfl⟩
          repeat ((conv => whnf); first | refine Br.t ?_ | refine Br.f ?_ | refine ⟨rfl, ?_⟩)
          conv => whnf
          refine ⟨a + 1, by omega, by omega, Le.slots ?_⟩
          simp [leS, mkS, rlS]
          exact i64_id (by omega) (by omega)
        · repeat ((conv => whnf); first | refine Br.t ?_ | refine Br.f ?_ | refine ⟨rfl, ?_⟩)
          conv => whnf
          refine fin (target := []) rfl (Nat.zero_le _) (by simp) rfl rfl
      · rw [if_neg h0, if_neg h0] at cr
        repeat ((conv => whnf); first | refine Br.t ?_ | refine Br.f ?_ | refine ⟨rfl, ?_⟩)
        conv => whnf
        refine CallW.mono (cr.pure _ rfl rfl) ?_
        rintro r st' ⟨rfl, rfl⟩
        repeat ((conv => whnf); first | refine Br.t ?_ | refine Br.f ?_ | refine ⟨rfl, ?_⟩)
        conv => whnf
        refine fin (target := []) rfl (Nat.zero_le _) (by simp) rfl rfl
end Go.Proofs.Ytiikndppckjmhaa.Am

/- Contracts: going along a script; what a script comes to. -/
namespace Go.Proofs.Ytiikndppckjmhaa.Am
set_option autoImplicit false
set_option linter.unusedVariables false
set_option linter.unusedSimpArgs false
set_option maxRecDepth 10000
set_option pp.maxSteps 3000
set_option pp.proofs false
def lB (l : List (Int × Bool)) : Ob := .row 0 1 false [[.i (.sl (l.map encP))]]
theorem lB_cl (l : List (Int × Bool)) (m : Nat) : (lB l).cl m := by intro cs hcs; simp only [List.mem_singleton] at hcs; subst hcs; rfl
def fnAl (a b : Nat) : V := .fn (.func 91) [] [.ptr a 0 0 0, .ptr b 0 0 0]
theorem along_ok (p : Pg) (l : List (Int × Bool)) : CallW Try.prog G0 55 [pgV p, .i (.sl (l.map encP))] [] (fun r st' => r = fnAl 0 1 ∧ st' = [pgB p, lB l]) := by
  refine call_of_body Try.func55 rfl (fun a w => Try.call55 a w) (wpx_ok (own := own0) _ _ _ ?_)
  repeat ((conv => whnf); first | refine Br.t ?_ | refine Br.f ?_ | refine ⟨rfl, ?_⟩)
  conv => whnf
  rfl
theorem hG0 : ∀ g, G0 g = none := fun _ => rfl
def Y0 : Yt := fun _ _ _ _ => False
theorem y0_ok {P : Program} {ro : Option Nat} {cx : Cx} : YOK P ro cx Y0 := fun _ _ _ _ h => h.elim
theorem along_in (p : Pg) (l : List (Int × Bool)) (big : List Ob) : CallW Try.prog G0 55 [pgV p, .i (.sl (l.map encP))] big (fun r st' => r = fnAl big.length (big.length + 1) ∧ st' = big ++ [pgB p, lB l]) := by
  refine (CallW.rise (bargs := [pgV p, .i (.sl (l.map encP))]) (big := big) [] [] (along_ok p l) rfl (by simp) (by simp) rfl (by simp) (by simp) rfl (fun j s v hs hv => .inl ⟨by rcases j with _ | _ | j <;> simp at hs <;> subst hs <;> rfl, by rcases j with _ | _ | j <;> simp at hs hv <;> subst hs <;> subst hv <;> rfl⟩) (.inl rfl)).mono ?_
  rintro r st' ⟨r0, s0, ⟨rfl, rfl⟩, rfl, rfl⟩
  refine ⟨?_, ?_⟩
  · simp [fnAl, V.ren, V.ren.renAll, fm]
  · simp [putAll]
    exact ⟨rfl, rfl⟩
/-- the outer store of Run: what stands beside the iterator -/
def ruB (p : Pg) (l : List (Int × Bool)) (c : Cfg) : List Ob := [pgB p, zeroB, cfgB c, pgB p, lB l]
def alS (l : List (Int × Bool)) (y : V) (a b k : Nat) (i : Nat) : List V := mkS 39 [(0, y), (1, .ptr a 0 0 0), (2, .ptr b 0 0 0), (4, .ptr k 0 0 0), (21, .i (.sl (l.map encP))), (22, .i (.int .i64 l.length)), (23, .i (.int .i64 i))]
theorem ruB_cl (p : Pg) (l : List (Int × Bool)) (c d : Cfg) (m : Nat) : ∀ o ∈ ruB p l c ++ [cfgB d], o.cl m := by
  intro o ho
  simp only [ruB, List.cons_append, List.nil_append, List.mem_cons, List.not_mem_nil, or_false] at ho
  rcases ho with rfl | rfl | rfl | rfl | rfl | rfl
  · exact pgB_cl p m
  · exact zeroB_cl m
  · exact cfgB_cl _ m
  · exact pgB_cl p m
  · exact lB_cl l m
  · exact cfgB_cl _ m
set_option maxHeartbeats 4000000 in
theorem run_ok (p : Pg) (hp0 : okPg p) (l : List (Int × Bool)) (hl : l.length ≤ 100000) : CallW Try.prog G0 53 [pgV p, .i (.sl (l.map encP))] [] (fun r st' => r = .tup [cfgV (if (chk p).2.2 = 0 then runC p cfg0 l else cfgZ), .i (.int .i64 (chk p).2.2)] ∧ st' = []) := by
  refine call_of_bodyZ 0 (Nat.le_refl _) Try.func53 rfl (fun a w => Try.call53 a w) (zx_ok (own := own0) cx0_good y0_ok hG0 (Nat.zero_le _) _ _ _ _ ?_)
  have c0 := start_ok p hp0
  by_cases h0 : (chk p).2.2 = 0
  · have hp := chk_zero h0
    have es : startC p = cfg0 := by unfold startC; rw [if_pos h0]
    rw [es, h0] at c0
    rw [if_pos h0, h0]
    repeat ((conv => whnf); first | refine Br.t ?_ | refine Br.f ?_ | refine ⟨rfl, ?_⟩)
    conv => whnf
    refine CallW.mono (c0.pure _ rfl rfl) ?_
    rintro r st' ⟨rfl, rfl⟩
    repeat ((conv => whnf); first | refine Br.t ?_ | refine Br.f ?_ | refine ⟨rfl, ?_⟩)
    conv => whnf
    refine CallW.mono (along_in p l _) ?_
    rintro r st' ⟨rfl, rfl⟩
    repeat ((conv => whnf); first | refine Br.t ?_ | refine Br.f ?_ | refine ⟨rfl, ?_⟩)
    conv => whnf
    refine zrange (Kit := fun st' p' => p' = none ∧ st' = ruB p l (runC p cfg0 l) ++ [cfgB (runC p cfg0 l)]) hG0 rfl (fun a w => Try.call91 a w) ?_ ?_
    · rintro l' ⟨q1, q2, q3, q4, q5, q6, q7, q8⟩ rfl rfl rfl
      refine it_of_body Try.func91 rfl rfl (zx_ok (own := own0) (cxIt_good _ _ _ _) (yit_ok (G := G0) _ _ _ _) hG0 (Nat.le_refl _) _ _ _ _ ?_)
      repeat ((conv => whnf); first | refine Br.t ?_ | refine Br.f ?_ | refine ⟨rfl, ?_⟩)
      conv => whnf
      refine CallW.mono (c0.pure _ rfl rfl) ?_
      rintro r st' ⟨rfl, rfl⟩
      repeat ((conv => whnf); first | refine Br.t ?_ | refine Br.f ?_ | refine ⟨rfl, ?_⟩)
      conv => whnf
      refine zx_ok (own := own0) (cxR_good _ _) y0_ok hG0 (Nat.zero_le _) _ _ _ _ ?_
      repeat ((conv => whnf); first | refine Br.t ?_ | refine Br.f ?_ | refine ⟨rfl, ?_⟩)
      conv => whnf
      refine zx_ok (own := own0) (cxR_good _ _) y0_ok hG0 (Nat.zero_le _) _ _ _ _ ?_
      repeat ((conv => whnf); first | refine Br.t ?_ | refine Br.f ?_ | refine ⟨rfl, ?_⟩)
      conv => whnf
      have hbd : ∀ i, i ≤ l.length → OkC p (runC p cfg0 (l.take i)) := fun i hi => runC_ok hp _ (cfg0_ok hp)
      refine zloop_ok (α := Nat) (cxIt_good _ _ _ _) (Nat.le_refl _) (fun i => ⟨alS l (.fn (.yield l') [] []) 3 4 5 i, ruB p l (runC p cfg0 (l.take i)) ++ [cfgB (runC p cfg0 (l.take i))]⟩) (fun i => i ≤ l.length) (fun i => l.length - i) 0 (Nat.zero_le _) (Le.back (fun _ => 0) (by intro id hid; rfl) (Nat.le_succ 5) rfl (by exact ruB_cl p l _ _ _) (by simp [leS, alS, mkS, V.up, V.up.upAll]) rfl) ?_
      intro i hi
      refine zx_ok (own := own0) (cxIt_good _ _ _ _) (yit_ok (G := G0) _ _ _ _) hG0 (Nat.le_refl _) _ _ _ _ ?_
      repeat ((conv => whnf); first | refine Br.t ?_ | refine Br.f ?_ | refine ⟨rfl, ?_⟩)
      conv => whnf
      by_cases hil : i < l.length
      · have hii : (i : Int) < l.length := by omega
        have he : l[i]? = some l[i] := List.getElem?_eq_getElem hil
        have he2 : (l.map encP)[i]? = some (encP l[i]) := by rw [List.getElem?_map, he]; rfl
        have hi0 : (0 : Int) ≤ i := by omega
        have hs := semstep p hp _ (hbd i hi) l[i].1 l[i].2
        repeat ((conv => whnf); first | refine Br.t ?_ | refine Br.f ?_ | refine ⟨rfl, ?_⟩)
        conv => whnf
        refine Br.mk (fun _ => ?_) (fun k => absurd k (by simp; omega))
        repeat ((conv => whnf); first | refine Br.t ?_ | refine Br.f ?_ | refine ⟨rfl, ?_⟩)
        conv => whnf
        have ex : (l.map encP).getD (i : Int).toNat [] = encP l[i] := by
          rw [Int.toNat_natCast, List.getD_eq_getElem?_getD, he2]; rfl
        rw [ex]
        refine ⟨⟨by omega, by simp; omega, rfl⟩, ?_⟩
        repeat ((conv => whnf); first | refine Br.t ?_ | refine Br.f ?_ | refine ⟨rfl, ?_⟩)
        conv => whnf
        refine CallW.mono (hs.pure _ rfl rfl) ?_
        rintro r st' ⟨rfl, rfl⟩
        repeat ((conv => whnf); first | refine Br.t ?_ | refine Br.f ?_ | refine ⟨rfl, ?_⟩)
        conv => whnf
        refine zx_ok (own := own0) (cxR_good _ _) y0_ok hG0 (Nat.zero_le _) _ _ _ _ ?_
        repeat ((conv => whnf); first | refine Br.t ?_ | refine Br.f ?_ | refine ⟨rfl, ?_⟩)
        conv => whnf
        refine zx_ok (own := own0) (cxR_good _ _) y0_ok hG0 (Nat.zero_le _) _ _ _ _ ?_
        repeat ((conv => whnf); first | refine Br.t ?_ | refine Br.f ?_ | refine ⟨rfl, ?_⟩)
        conv => whnf
        refine ⟨i + 1, rfl, by omega, by omega, ?_⟩
        rw [run_snoc p cfg0 l i _ he]
        exact Le.back (fun _ => 0) (by intro id hid; rfl) (Nat.le_succ 5) rfl (by exact ruB_cl p l _ _ _) (by simp [leS, alS, mkS, V.up, V.up.upAll]; exact i64_id (by omega) (by omega)) rfl
      · have hii : ¬ (i : Int) < l.length := by omega
        repeat ((conv => whnf); first | refine Br.t ?_ | refine Br.f ?_ | refine ⟨rfl, ?_⟩)
        conv => whnf
        refine Br.mk (fun k => absurd k (by simp; omega)) (fun _ => ?_)
        repeat ((conv => whnf); first | refine Br.t ?_ | refine Br.f ?_ | refine ⟨rfl, ?_⟩)
        conv => whnf
        have ei : i = l.length := by omega
        subst ei
        rw [List.take_length]
        rfl
    · rintro st' p' ⟨rfl, rfl⟩
      repeat ((conv => whnf); first | refine Br.t ?_ | refine Br.f ?_ | refine ⟨rfl, ?_⟩)
      conv => whnf
      exact ⟨Nat.zero_le _, rfl, (fun _ h => nomatch h), rfl, rfl⟩
  · have es : startC p = cfgZ := by unfold startC; rw [if_neg h0]
    rw [es] at c0
    rw [if_neg h0]
    repeat ((conv => whnf); first | refine Br.t ?_ | refine Br.f ?_ | refine ⟨rfl, ?_⟩)
    conv => whnf
    refine CallW.mono (c0.pure _ rfl rfl) ?_
    rintro r st' ⟨rfl, rfl⟩
    repeat ((conv => whnf); first | refine Br.t ?_ | refine Br.f ?_ | refine ⟨rfl, ?_⟩)
    conv => whnf
    refine Br.mk (fun _ => ?_) (fun k => absurd h0 (by simpa using k))
    repeat ((conv => whnf); first | refine Br.t ?_ | refine Br.f ?_ | refine ⟨rfl, ?_⟩)
    conv => whnf
    exact ⟨Nat.zero_le _, rfl, (fun _ h => nomatch h), rfl, rfl⟩
end Go.Proofs.Ytiikndppckjmhaa.Am

/- Contracts: the first config on the way of a script in which two race. -/
namespace Go.Proofs.Ytiikndppckjmhaa.Am
set_option autoImplicit false
set_option linter.unusedVariables false
set_option linter.unusedSimpArgs false
set_option maxRecDepth 10000
set_option pp.maxSteps 3000
set_option pp.proofs false
/-- do two race behind the first i picks? -/
def metAt (p : Pg) (l : List (Int × Bool)) (i : Nat) : Bool := (firstR (touches p (runC p cfg0 (l.take i)))).isSome
def meets (p : Pg) (l : List (Int × Bool)) : Option Nat := (List.range (l.length + 1)).find? (metAt p l)
theorem meets_some {p : Pg} {l : List (Int × Bool)} {i : Nat} (hi : i ≤ l.length) (h : metAt p l i = true) (hj : ∀ j, j < i → metAt p l j = false) : meets p l = some i := by
  unfold meets
  rw [List.find?_range_eq_some]
  exact ⟨h, by simp; omega, fun j hj' => by simp [hj j hj']⟩
theorem meets_none {p : Pg} {l : List (Int × Bool)} (hj : ∀ j, j ≤ l.length → metAt p l j = false) : meets p l = none := by
  unfold meets
  rw [List.find?_range_eq_none]
  intro j hj'
  simp [hj j (by omega)]
def intB (n : Int) : Ob := .row 0 1 false [[.i (.int .i64 n)]]
def boolB (b : Bool) : Ob := .row 0 1 false [[.i (.bool b)]]
def meB (p : Pg) (l : List (Int × Bool)) (n : Int) (b : Bool) : List Ob := [pgB p, intB n, boolB b, pgB p, lB l]
theorem meB_cl (p : Pg) (l : List (Int × Bool)) (n : Int) (b : Bool) (c : Cfg) (m : Nat) : ∀ o ∈ meB p l n b ++ [cfgB c], o.cl m := by
  intro o ho
  simp only [meB, List.cons_append, List.nil_append, List.mem_cons, List.not_mem_nil, or_false] at ho
  rcases ho with rfl | rfl | rfl | rfl | rfl | rfl
  · exact pgB_cl p m
  · intro cs hcs; simp only [List.mem_singleton] at hcs; subst hcs; rfl
  · intro cs hcs; simp only [List.mem_singleton] at hcs; subst hcs; rfl
  · exact pgB_cl p m
  · exact lB_cl l m
  · exact cfgB_cl _ m
def meN (o : Option Nat) : Int := match o with | some i => (i : Nat) | none => 0
def meKit (p : Pg) (l : List (Int × Bool)) : List Ob → Option Code → Prop := fun st' p' => (p' = none ∧ meets p l = none ∧ ∃ c, st' = meB p l 0 false ++ [cfgB c]) ∨ (p' = some .ret ∧ ∃ (i : Nat) (rest : List Ob), meets p l = some i ∧ st' = meB p l i true ++ rest)
set_option maxHeartbeats 4000000 in
theorem meets_ok (p : Pg) (hp0 : okPg p) (h0 : (chk p).2.2 = 0) (l : List (Int × Bool)) (hl : l.length ≤ 100000) : CallW Try.prog G0 54 [pgV p, .i (.sl (l.map encP))] [] (fun r st' => r = .tup [.i (.int .i64 (meN (meets p l))), .i (.bool (meets p l).isSome)] ∧ st' = []) := by
  refine call_of_bodyZ 0 (Nat.le_refl _) Try.func54 rfl (fun a w => Try.call54 a w) (zx_ok (own := own0) cx0_good y0_ok hG0 (Nat.zero_le _) _ _ _ _ ?_)
  have c0 := start_ok p hp0
  have hp := chk_zero h0
  have es : startC p = cfg0 := by unfold startC; rw [if_pos h0]
  rw [es, h0] at c0
  repeat ((conv => whnf); first | refine Br.t ?_ | refine Br.f ?_ | refine ⟨rfl, ?_⟩)
  conv => whnf
  refine CallW.mono (along_in p l _) ?_
  rintro r st' ⟨rfl, rfl⟩
  repeat ((conv => whnf); first | refine Br.t ?_ | refine Br.f ?_ | refine ⟨rfl, ?_⟩)
  conv => whnf
  refine zrange (Kit := meKit p l) hG0 rfl (fun a w => Try.call91 a w) ?_ ?_
  · rintro l' ⟨q1, q2, q3, q4, q5, q6, q7, q8⟩ rfl rfl rfl
    refine it_of_body Try.func91 rfl rfl (zx_ok (own := own0) (cxIt_good _ _ _ _) (yit_ok (G := G0) _ _ _ _) hG0 (Nat.le_refl _) _ _ _ _ ?_)
    repeat ((conv => whnf); first | refine Br.t ?_ | refine Br.f ?_ | refine ⟨rfl, ?_⟩)
    conv => whnf
    refine CallW.mono (c0.pure _ rfl rfl) ?_
    rintro r st' ⟨rfl, rfl⟩
    have cf := first_ok p hp cfg0 (cfg0_ok hp)
    have hm0 : metAt p l 0 = (firstR (touches p cfg0)).isSome := rfl
    cases hf : firstR (touches p cfg0) with
    | some xy =>
      obtain ⟨x, y⟩ := xy
      rw [hf] at cf hm0
      repeat ((conv => whnf); first | refine Br.t ?_ | refine Br.f ?_ | refine ⟨rfl, ?_⟩)
      conv => whnf
      refine zx_ok (own := own0) (cxR_good _ _) y0_ok hG0 (Nat.zero_le _) _ _ _ _ ?_
      repeat ((conv => whnf); first | refine Br.t ?_ | refine Br.f ?_ | refine ⟨rfl, ?_⟩)
      conv => whnf
      refine zx_ok (own := own0) (cxR_good _ _) y0_ok hG0 (Nat.zero_le _) _ _ _ _ ?_
      repeat ((conv => whnf); first | refine Br.t ?_ | refine Br.f ?_ | refine ⟨rfl, ?_⟩)
      conv => whnf
      refine CallW.mono (cf.pure _ rfl rfl) ?_
      rintro r st' ⟨rfl, rfl⟩
      repeat ((conv => whnf); first | refine Br.t ?_ | refine Br.f ?_ | refine ⟨rfl, ?_⟩)
      conv => whnf
      exact .inr ⟨rfl, 0, _, meets_some (Nat.zero_le _) hm0 (fun j hj => absurd hj (Nat.not_lt_zero j)), rfl⟩
    | none =>
      rw [hf] at cf hm0
      repeat ((conv => whnf); first | refine Br.t ?_ | refine Br.f ?_ | refine ⟨rfl, ?_⟩)
      conv => whnf
      refine zx_ok (own := own0) (cxR_good _ _) y0_ok hG0 (Nat.zero_le _) _ _ _ _ ?_
      repeat ((conv => whnf); first | refine Br.t ?_ | refine Br.f ?_ | refine ⟨rfl, ?_⟩)
      conv => whnf
      refine zx_ok (own := own0) (cxR_good _ _) y0_ok hG0 (Nat.zero_le _) _ _ _ _ ?_
      repeat ((conv => whnf); first | refine Br.t ?_ | refine Br.f ?_ | refine ⟨rfl, ?_⟩)
      conv => whnf
      refine CallW.mono (cf.pure _ rfl rfl) ?_
      rintro r st' ⟨rfl, rfl⟩
      repeat ((conv => whnf); first | refine Br.t ?_ | refine Br.f ?_ | refine ⟨rfl, ?_⟩)
      conv => whnf
      have hbd : ∀ i, i ≤ l.length → OkC p (runC p cfg0 (l.take i)) := fun i hi => runC_ok hp _ (cfg0_ok hp)
      refine zloop_ok (α := Nat) (cxIt_good _ _ _ _) (Nat.le_refl _) (fun i => ⟨alS l (.fn (.yield l') [] []) 3 4 5 i, meB p l 0 false ++ [cfgB (runC p cfg0 (l.take i))]⟩) (fun i => i ≤ l.length ∧ ∀ j, j ≤ i → metAt p l j = false) (fun i => l.length - i) 0 ⟨Nat.zero_le _, fun j hj => by rw [Nat.le_zero.1 hj]; exact hm0⟩ (Le.back (fun _ => 0) (by intro id hid; rfl) (Nat.le_succ 5) rfl (by exact meB_cl p l _ _ _ _) (by simp [leS, alS, mkS, V.up, V.up.upAll]) rfl) ?_
      rintro i ⟨hi, him⟩
      refine zx_ok (own := own0) (cxIt_good _ _ _ _) (yit_ok (G := G0) _ _ _ _) hG0 (Nat.le_refl _) _ _ _ _ ?_
      repeat ((conv => whnf); first | refine Br.t ?_ | refine Br.f ?_ | refine ⟨rfl, ?_⟩)
      conv => whnf
      by_cases hil : i < l.length
      · have hii : (i : Int) < l.length := by omega
        have he : l[i]? = some l[i] := List.getElem?_eq_getElem hil
        have he2 : (l.map encP)[i]? = some (encP l[i]) := by rw [List.getElem?_map, he]; rfl
        have hi0 : (0 : Int) ≤ i := by omega
        have hs := semstep p hp _ (hbd i hi) l[i].1 l[i].2
        refine Br.mk (fun _ => ?_) (fun k => absurd k (by simp; omega))
        repeat ((conv => whnf); first | refine Br.t ?_ | refine Br.f ?_ | refine ⟨rfl, ?_⟩)
        conv => whnf
        have ex : (l.map encP).getD (i : Int).toNat [] = encP l[i] := by
          rw [Int.toNat_natCast, List.getD_eq_getElem?_getD, he2]; rfl
        rw [ex]
        refine ⟨⟨by omega, by simp; omega, rfl⟩, ?_⟩
        repeat ((conv => whnf); first | refine Br.t ?_ | refine Br.f ?_ | refine ⟨rfl, ?_⟩)
        conv => whnf
        refine CallW.mono (hs.pure _ rfl rfl) ?_
        rintro r st' ⟨rfl, rfl⟩
        have cf := first_ok p hp _ (hbd (i + 1) hil)
        have hm1 : metAt p l (i + 1) = (firstR (touches p (runC p cfg0 (l.take (i + 1))))).isSome := rfl
        have ei : IntKind.i64.wrap ((i : Int) + 1) = ((i + 1 : Nat) : Int) := i64_id (by omega) (by omega)
        rw [run_snoc p cfg0 l i _ he] at cf hm1
        cases hf : firstR (touches p (stepC p (runC p cfg0 (l.take i)) l[i].1 l[i].2)) with
        | some xy =>
          obtain ⟨x, y⟩ := xy
          rw [hf] at cf hm1
          repeat ((conv => whnf); first | refine Br.t ?_ | refine Br.f ?_ | refine ⟨rfl, ?_⟩)
          conv => whnf
          refine zx_ok (own := own0) (cxR_good _ _) y0_ok hG0 (Nat.zero_le _) _ _ _ _ ?_
          repeat ((conv => whnf); first | refine Br.t ?_ | refine Br.f ?_ | refine ⟨rfl, ?_⟩)
          conv => whnf
          refine zx_ok (own := own0) (cxR_good _ _) y0_ok hG0 (Nat.zero_le _) _ _ _ _ ?_
          repeat ((conv => whnf); first | refine Br.t ?_ | refine Br.f ?_ | refine ⟨rfl, ?_⟩)
          conv => whnf
          refine CallW.mono (cf.pure _ rfl rfl) ?_
          rintro r st' ⟨rfl, rfl⟩
          repeat ((conv => whnf); first | refine Br.t ?_ | refine Br.f ?_ | refine ⟨rfl, ?_⟩)
          conv => whnf
          exact .inr ⟨rfl, i + 1, _, meets_some hil hm1 (fun j hj => him j (by omega)), by rw [← ei]; rfl⟩
        | none =>
          rw [hf] at cf hm1
          repeat ((conv => whnf); first | refine Br.t ?_ | refine Br.f ?_ | refine ⟨rfl, ?_⟩)
          conv => whnf
          refine zx_ok (own := own0) (cxR_good _ _) y0_ok hG0 (Nat.zero_le _) _ _ _ _ ?_
          repeat ((conv => whnf); first | refine Br.t ?_ | refine Br.f ?_ | refine ⟨rfl, ?_⟩)
          conv => whnf
          refine zx_ok (own := own0) (cxR_good _ _) y0_ok hG0 (Nat.zero_le _) _ _ _ _ ?_
          repeat ((conv => whnf); first | refine Br.t ?_ | refine Br.f ?_ | refine ⟨rfl, ?_⟩)
          conv => whnf
          refine CallW.mono (cf.pure _ rfl rfl) ?_
          rintro r st' ⟨rfl, rfl⟩
          repeat ((conv => whnf); first | refine Br.t ?_ | refine Br.f ?_ | refine ⟨rfl, ?_⟩)
          conv => whnf
          refine ⟨i + 1, rfl, ⟨hil, fun j hj => ?_⟩, by omega, ?_⟩
          · by_cases hji : j = i + 1
            · subst hji; exact hm1
            · exact him j (by omega)
          rw [run_snoc p cfg0 l i _ he]
          exact Le.back (fun _ => 0) (by intro id hid; rfl) (Nat.le_succ 5) rfl (by exact meB_cl p l _ _ _ _) (by simp [leS, alS, mkS, V.up, V.up.upAll]; exact ei) rfl
      · have hii : ¬ (i : Int) < l.length := by omega
        refine Br.mk (fun k => absurd k (by simp; omega)) (fun _ => ?_)
        repeat ((conv => whnf); first | refine Br.t ?_ | refine Br.f ?_ | refine ⟨rfl, ?_⟩)
        conv => whnf
        exact .inl ⟨rfl, meets_none (fun j hj => him j (by omega)), _, rfl⟩
  · rintro st' p' (⟨rfl, hm, rest, rfl⟩ | ⟨rfl, i, rest, hm, rfl⟩)
    · rw [hm]
      repeat ((conv => whnf); first | refine Br.t ?_ | refine Br.f ?_ | refine ⟨rfl, ?_⟩)
      conv => whnf
      exact ⟨⟨rfl, rfl⟩, Nat.zero_le _, rfl, (fun _ h => nomatch h), rfl, rfl⟩
    · rw [hm]
      repeat ((conv => whnf); first | refine Br.t ?_ | refine Br.f ?_ | refine ⟨rfl, ?_⟩)
      conv => whnf
      exact ⟨⟨rfl, rfl⟩, Nat.zero_le _, rfl, (fun _ h => nomatch h), rfl, rfl⟩
set_option maxHeartbeats 4000000 in
theorem meetsZ_ok (p : Pg) (hp0 : okPg p) (h0 : (chk p).2.2 ≠ 0) (l : List (Int × Bool)) : CallW Try.prog G0 54 [pgV p, .i (.sl (l.map encP))] [] (fun r st' => r = .tup [.i (.int .i64 0), .i (.bool false)] ∧ st' = []) := by
  refine call_of_bodyZ 0 (Nat.le_refl _) Try.func54 rfl (fun a w => Try.call54 a w) (zx_ok (own := own0) cx0_good y0_ok hG0 (Nat.zero_le _) _ _ _ _ ?_)
  have c0 := start_ok p hp0
  have es : startC p = cfgZ := by unfold startC; rw [if_neg h0]
  rw [es] at c0
  repeat ((conv => whnf); first | refine Br.t ?_ | refine Br.f ?_ | refine ⟨rfl, ?_⟩)
  conv => whnf
  refine CallW.mono (along_in p l _) ?_
  rintro r st' ⟨rfl, rfl⟩
  repeat ((conv => whnf); first | refine Br.t ?_ | refine Br.f ?_ | refine ⟨rfl, ?_⟩)
  conv => whnf
  refine zrange (Kit := fun st' p' => p' = none ∧ st' = meB p l 0 false ++ [cfgB cfgZ]) hG0 rfl (fun a w => Try.call91 a w) ?_ ?_
  · rintro l' ⟨q1, q2, q3, q4, q5, q6, q7, q8⟩ rfl rfl rfl
    refine it_of_body Try.func91 rfl rfl (zx_ok (own := own0) (cxIt_good _ _ _ _) (yit_ok (G := G0) _ _ _ _) hG0 (Nat.le_refl _) _ _ _ _ ?_)
    repeat ((conv => whnf); first | refine Br.t ?_ | refine Br.f ?_ | refine ⟨rfl, ?_⟩)
    conv => whnf
    refine CallW.mono (c0.pure _ rfl rfl) ?_
    rintro r st' ⟨rfl, rfl⟩
    repeat ((conv => whnf); first | refine Br.t ?_ | refine Br.f ?_ | refine ⟨rfl, ?_⟩)
    conv => whnf
    have hb : ((chk p).2.2 != 0) = true := by simpa using h0
    rw [hb]
    repeat ((conv => whnf); first | refine Br.t ?_ | refine Br.f ?_ | refine ⟨rfl, ?_⟩)
    conv => whnf
    rfl
  · rintro st' p' ⟨rfl, rfl⟩
    repeat ((conv => whnf); first | refine Br.t ?_ | refine Br.f ?_ | refine ⟨rfl, ?_⟩)
    conv => whnf
    exact ⟨⟨rfl, rfl⟩, Nat.zero_le _, rfl, (fun _ h => nomatch h), rfl, rfl⟩
end Go.Proofs.Ytiikndppckjmhaa.Am

/- Contracts: scripts' and witnesses' bytes and checks (written by mkysw.py). -/
namespace Go.Proofs.Ytiikndppckjmhaa.Am
set_option autoImplicit false
set_option linter.unusedVariables false
set_option linter.unusedSimpArgs false
set_option maxRecDepth 10000
set_option pp.deepTerms false
set_option pp.deepTerms.threshold 6
set_option pp.proofs false
def ownAll : Tmp → Bool := fun _ => true
theorem ap1 {sz by_ len esl : Nat} {x : I} (hsz : 1 = sz) (b : Nat) (hb : by_ = b) (h1 : len = esl) (h2 : (len + 1) * b ≤ 140737488355328) (h3 : len + 1 ≤ Go.maxLen) :
    (∀ cs ∈ [[x]], cs.length = sz) ∧ len = esl ∧ (len + (lift [[x]]).length) * by_ ≤ 140737488355328 ∧ len + (lift [[x]]).length ≤ Go.maxLen := by
  subst hsz hb
  exact ⟨fun cs hcs => by simp at hcs; subst hcs; rfl, h1, h2, h3⟩
theorem apL {sz by_ len esl : Nat} {es : List (List I)} (hes : ∀ cs ∈ es, cs.length = 1) (hsz : 1 = sz) (b : Nat) (hb : by_ = b) (h1 : len = esl) (h2 : (len + es.length) * b ≤ 140737488355328) (h3 : len + es.length ≤ Go.maxLen) :
    (∀ cs ∈ es, cs.length = sz) ∧ len = esl ∧ (len + (lift es).length) * by_ ≤ 140737488355328 ∧ len + (lift es).length ≤ Go.maxLen := by
  subst hsz hb
  have : (lift es).length = es.length := by simp [lift]
  rw [this]
  exact ⟨hes, h1, h2, h3⟩
theorem u8_small {n : Nat} (h : n < 256) : IntKind.u8.wrap n = n := by
  simp [IntKind.wrap, IntKind.signed, IntKind.bits]; omega
/-- a whole number, seven bits a byte -/
def by8 (b : Nat) : List I := [.int .u8 b]
def okP (x : Int × Bool) : Bool := decide (0 ≤ x.1) && decide (x.1 < 8)
def pk (x : Int × Bool) : Nat := x.1.toNat + if x.2 then 8 else 0
def pks (xs : List (Int × Bool)) : List (List I) := (xs.map pk).map by8
def codeS (xs : List (Int × Bool)) : Int := if 4096 < xs.length then 4 else if xs.all okP then 0 else 1
def i64b (n : Int) : Prop := -9223372036854775808 ≤ n ∧ n ≤ 9223372036854775807
def stP (xs : List (Int × Bool)) (i : Nat) : List V := mkS 38 [(2, .nils), (3, .i (.int .i64 0)), (4, .ref 0 1 0 i), (11, .i (.sl (xs.map encP))), (12, .i (.int .i64 xs.length)), (13, .i (.int .i64 i))]
theorem codeS_bad {xs : List (Int × Bool)} {x : Int × Bool} (hl : xs.length ≤ 4096) (hx : x ∈ xs) (hb : okP x = false) : codeS xs = 1 := by
  simp only [codeS]
  rw [if_neg (by omega), if_neg]
  intro h
  have := List.all_eq_true.1 h x hx
  rw [hb] at this; cases this
theorem pk_f {a : Int} (h1 : 0 ≤ a) (h2 : a < 8) : IntKind.u8.wrap a = (a.toNat : Int) := by
  simp [IntKind.wrap, IntKind.signed, IntKind.bits]; omega
theorem pk_t {a : Int} (h1 : 0 ≤ a) (h2 : a < 8) : IntKind.u8.wrap (IntKind.u8.wrap a + 8) = ((a.toNat + 8 : Nat) : Int) := by
  simp [IntKind.wrap, IntKind.signed, IntKind.bits]; omega
theorem put25 (xs : List (Int × Bool)) (hx : xs.length ≤ 1000000) : CallW Try.prog G0 90 [.i (.sl (xs.map encP))] []
    (fun r st' => r = .tup [.i (.sl (if codeS xs = 0 then pks xs else [])), .i (.int .i64 (codeS xs))] ∧ st' = []) := by
  refine call_of_bodyF 0 (Nat.le_refl _) Try.func90 rfl (fun a w => Try.call90 a w) (wpx_ok (own := own0) _ _ _ ?_)
  conv => whnf
  refine Br.mk (fun h => ?_) (fun h => ?_)
  · conv => whnf
    simp at h
    have hc : codeS xs = 4 := by simp only [codeS]; rw [if_pos (by omega)]
    refine fin (target := []) rfl (Nat.zero_le _) (by simp) ?_ rfl
    rw [hc]; rfl
  · simp at h
    conv => whnf
    refine loop_ok (α := Nat) (fun i => ⟨stP xs i, [.row 1 1 false (lift (pks (xs.take i)))]⟩) (fun i => i ≤ xs.length ∧ (xs.take i).all okP = true) (fun i => xs.length - i) 0 ⟨Nat.zero_le _, rfl⟩
      ((Le.nil (n := 0) 4 1 rfl).trans (Le.slots (by simp [leS, stP, mkS]))) (fun i hi => wpx_ok (own := own0) _ _ _ ?_)
    obtain ⟨h1, h2⟩ := hi
    conv => whnf
    refine Br.mk (fun h3 => ?_) (fun h3 => ?_)
    · simp at h3
      conv => whnf
      obtain ⟨x, hxi⟩ : ∃ x, x = xs[i] := ⟨_, rfl⟩
      have e : (xs.map encP).getD (i : Int).toNat [] = encP x := by rw [hxi]; exact getD_enc h3
      have htk : xs.take (i + 1) = xs.take i ++ [x] := by rw [hxi]; simp
      rw [e]
      refine ⟨⟨by omega, by simp; omega, rfl⟩, ?_⟩
      repeat ((conv => whnf); first | refine Br.t ?_ | refine Br.f ?_ | refine ⟨rfl, ?_⟩)
      conv => whnf
      refine Br.mk (fun h4 => ?_) (fun h4 => ?_)
      · simp at h4
        repeat ((conv => whnf); first | refine Br.t ?_ | refine Br.f ?_ | refine ⟨rfl, ?_⟩)
        conv => whnf
        have hc : codeS xs = 1 := codeS_bad (by omega) (hxi ▸ List.getElem_mem h3) (by simp only [okP]; simp; omega)
        refine fin (target := []) rfl (Nat.zero_le _) (by simp) ?_ rfl
        rw [hc]; rfl
      · simp at h4
        repeat ((conv => whnf); first | refine Br.t ?_ | refine Br.f ?_ | refine ⟨rfl, ?_⟩)
        conv => whnf
        refine Br.mk (fun h5 => ?_) (fun h5 => ?_)
        · simp at h5
          repeat ((conv => whnf); first | refine Br.t ?_ | refine Br.f ?_ | refine ⟨rfl, ?_⟩)
          conv => whnf
          have hc : codeS xs = 1 := codeS_bad (by omega) (hxi ▸ List.getElem_mem h3) (by simp only [okP]; simp; omega)
          refine fin (target := []) rfl (Nat.zero_le _) (by simp) ?_ rfl
          rw [hc]; rfl
        · simp at h5
          repeat ((conv => whnf); first | refine Br.t ?_ | refine Br.f ?_ | refine ⟨rfl, ?_⟩)
          conv => whnf
          refine Br.mk (fun h6 => ?_) (fun h6 => ?_)
          · repeat ((conv => whnf); first | refine Br.t ?_ | refine Br.f ?_ | refine ⟨rfl, ?_⟩)
            conv => whnf
            refine ⟨ap1 rfl 1 rfl (by simp [lift, pks]; omega) (by omega) (len_mx (by omega)), ?_⟩
            repeat ((conv => whnf); first | refine Br.t ?_ | refine Br.f ?_ | refine ⟨rfl, ?_⟩)
            conv => whnf
            refine ⟨i + 1, ⟨by omega, ?_⟩, by omega, Le.back (fun id => if id = 0 then 1 else 0) (by simp) (Nat.zero_le _) (by rfl) (fun o ho => ?_) ?_ ?_⟩
            · rw [htk, List.all_append, h2]
              simp [okP, h4, h5]
            · simp only [List.mem_singleton] at ho
              subst ho
              exact cl_lift _ _ _ _ _
            · simp [leS, stP, mkS, V.up, lift]
              exact i64_id (by omega) (by omega)
            · have e9 : pks (xs.take i ++ [x]) = pks (xs.take i) ++ [[.int .u8 (IntKind.u8.wrap (IntKind.u8.wrap x.1 + 8))]] := by
                simp only [pks, List.map_append, List.map_cons, List.map_nil, by8, pk, h6, if_true, pk_t h4 h5]
              simp only [upSt, Ob.up, map_up_lift]
              rw [htk, e9, lift_app]
              rfl
          · repeat ((conv => whnf); first | refine Br.t ?_ | refine Br.f ?_ | refine ⟨rfl, ?_⟩)
            conv => whnf
            refine ⟨ap1 rfl 1 rfl (by simp [lift, pks]; omega) (by omega) (len_mx (by omega)), ?_⟩
            repeat ((conv => whnf); first | refine Br.t ?_ | refine Br.f ?_ | refine ⟨rfl, ?_⟩)
            conv => whnf
            refine ⟨i + 1, ⟨by omega, ?_⟩, by omega, Le.back (fun id => if id = 0 then 1 else 0) (by simp) (Nat.zero_le _) (by rfl) (fun o ho => ?_) ?_ ?_⟩
            · rw [htk, List.all_append, h2]
              simp [okP, h4, h5]
            · simp only [List.mem_singleton] at ho
              subst ho
              exact cl_lift _ _ _ _ _
            · simp [leS, stP, mkS, V.up, lift]
              exact i64_id (by omega) (by omega)
            · have e9 : pks (xs.take i ++ [x]) = pks (xs.take i) ++ [[.int .u8 (IntKind.u8.wrap x.1)]] := by
                simp only [pks, List.map_append, List.map_cons, List.map_nil, by8, pk, h6, pk_f h4 h5]
                rfl
              simp only [upSt, Ob.up, map_up_lift]
              rw [htk, e9, lift_app]
              rfl
    · simp at h3
      have e : xs.take i = xs := List.take_of_length_le h3
      have hc : codeS xs = 0 := by rw [e] at h2; simp only [codeS]; rw [if_neg (by omega), if_pos h2]
      conv => whnf
      refine ⟨Nat.le_refl _, rfl, pks (xs.take i), rfl, ?_⟩
      conv => whnf
      refine fin (target := []) rfl (Nat.zero_le _) (by simp) ?_ rfl
      rw [hc, e]
      simp [pks]
      rw [List.take_of_length_le (by simp; omega)]
theorem within29 (n l : Int) : CallW Try.prog G0 109 [.i (.int .i64 n), .i (.int .i64 l)] [] (fun r st' => r = .i (.bool (decide (0 ≤ n) && decide (n < l))) ∧ st' = []) := by
  refine call_of_bodyF 0 (Nat.le_refl _) Try.func109 rfl (fun a w => Try.call109 a w) (wpx_ok (own := own0) _ _ _ ?_)
  conv => whnf
  refine Br.mk (fun h => ?_) (fun h => ?_)
  · simp at h
    repeat ((conv => whnf); first | refine Br.t ?_ | refine Br.f ?_ | refine ⟨rfl, ?_⟩)
    conv => whnf
    refine fin (target := []) rfl (Nat.zero_le _) (by simp) ?_ rfl
    simp [h]
  · simp at h
    repeat ((conv => whnf); first | refine Br.t ?_ | refine Br.f ?_ | refine ⟨rfl, ?_⟩)
    conv => whnf
    refine fin (target := []) rfl (Nat.zero_le _) (by simp) ?_ rfl
    rw [decide_eq_false (by omega : ¬ 0 ≤ n)]; rfl
def okW (a b c : Int) : Bool := (decide (0 ≤ a) && decide (a < 8)) && (decide (0 ≤ b) && decide (b < 8)) && (decide (0 ≤ c) && decide (c < 16)) && !decide (a = b)
def codeW (xs : List (Int × Bool)) (a b c : Int) : Int := if codeS xs = 0 then (if okW a b c then 0 else 1) else codeS xs
def encW (xs : List (Int × Bool)) (a b c : Int) : List I := [.sl (xs.map encP), .int .i64 a, .int .i64 b, .int .i64 c]
theorem check13 (xs : List (Int × Bool)) (a b c : Int) (hx : xs.length ≤ 1000000) : CallW Try.prog G0 93 [.agg ((encW xs a b c).map .i)] [] (fun r st' => r = .i (.int .i64 (codeW xs a b c)) ∧ st' = []) := by
  refine call_of_bodyF 0 (Nat.le_refl _) Try.func93 rfl (fun a w => Try.call93 a w) (wpx_ok (own := own0) _ _ _ ?_)
  repeat ((conv => whnf); first | refine Br.t ?_ | refine Br.f ?_ | refine ⟨rfl, ?_⟩)
  conv => whnf
  refine ((put25 xs hx).pure _ rfl rfl).mono ?_
  rintro r st' ⟨rfl, rfl⟩
  repeat ((conv => whnf); first | refine Br.t ?_ | refine Br.f ?_ | refine ⟨rfl, ?_⟩)
  conv => whnf
  refine Br.mk (fun h => ?_) (fun h => ?_)
  · simp at h
    repeat ((conv => whnf); first | refine Br.t ?_ | refine Br.f ?_ | refine ⟨rfl, ?_⟩)
    conv => whnf
    refine fin (target := []) rfl (Nat.zero_le _) (by simp) ?_ rfl
    simp [codeW, h]
  · simp at h
    repeat ((conv => whnf); first | refine Br.t ?_ | refine Br.f ?_ | refine ⟨rfl, ?_⟩)
    conv => whnf
    refine ((within29 a 8).pure _ rfl rfl).mono ?_
    rintro r st' ⟨rfl, rfl⟩
    repeat ((conv => whnf); first | refine Br.t ?_ | refine Br.f ?_ | refine ⟨rfl, ?_⟩)
    conv => whnf
    refine Br.mk (fun h1 => ?_) (fun h1 => ?_)
    · repeat ((conv => whnf); first | refine Br.t ?_ | refine Br.f ?_ | refine ⟨rfl, ?_⟩)
      conv => whnf
      refine fin (target := []) rfl (Nat.zero_le _) (by simp) ?_ rfl
      have ho : okW a b c = false := by simp only [okW]; simp at *; omega
      simp [codeW, h, ho]
    · repeat ((conv => whnf); first | refine Br.t ?_ | refine Br.f ?_ | refine ⟨rfl, ?_⟩)
      conv => whnf
      refine ((within29 b 8).pure _ rfl rfl).mono ?_
      rintro r st' ⟨rfl, rfl⟩
      repeat ((conv => whnf); first | refine Br.t ?_ | refine Br.f ?_ | refine ⟨rfl, ?_⟩)
      conv => whnf
      refine Br.mk (fun h2 => ?_) (fun h2 => ?_)
      · repeat ((conv => whnf); first | refine Br.t ?_ | refine Br.f ?_ | refine ⟨rfl, ?_⟩)
        conv => whnf
        refine fin (target := []) rfl (Nat.zero_le _) (by simp) ?_ rfl
        have ho : okW a b c = false := by simp only [okW]; simp at *; omega
        simp [codeW, h, ho]
      · repeat ((conv => whnf); first | refine Br.t ?_ | refine Br.f ?_ | refine ⟨rfl, ?_⟩)
        conv => whnf
        refine ((within29 c 16).pure _ rfl rfl).mono ?_
        rintro r st' ⟨rfl, rfl⟩
        repeat ((conv => whnf); first | refine Br.t ?_ | refine Br.f ?_ | refine ⟨rfl, ?_⟩)
        conv => whnf
        refine Br.mk (fun h3 => ?_) (fun h3 => ?_)
        · repeat ((conv => whnf); first | refine Br.t ?_ | refine Br.f ?_ | refine ⟨rfl, ?_⟩)
          conv => whnf
          refine fin (target := []) rfl (Nat.zero_le _) (by simp) ?_ rfl
          have ho : okW a b c = false := by simp only [okW]; simp at *; omega
          simp [codeW, h, ho]
        · repeat ((conv => whnf); first | refine Br.t ?_ | refine Br.f ?_ | refine ⟨rfl, ?_⟩)
          conv => whnf
          refine Br.mk (fun h4 => ?_) (fun h4 => ?_)
          · repeat ((conv => whnf); first | refine Br.t ?_ | refine Br.f ?_ | refine ⟨rfl, ?_⟩)
            conv => whnf
            refine fin (target := []) rfl (Nat.zero_le _) (by simp) ?_ rfl
            have ho : okW a b c = false := by simp only [okW]; simp at *; omega
            simp [codeW, h, ho]
          · repeat ((conv => whnf); first | refine Br.t ?_ | refine Br.f ?_ | refine ⟨rfl, ?_⟩)
            conv => whnf
            refine fin (target := []) rfl (Nat.zero_le _) (by simp) ?_ rfl
            have ho : okW a b c = true := by simp only [okW]; simp at h1 h2 h3 h4 ⊢; omega
            simp [codeW, h, ho]
def row0 (xs : List (Int × Bool)) (a b c : Int) : Ob := .row 0 4 false [(encW xs a b c).map .i]
theorem check12 (xs : List (Int × Bool)) (a b c : Int) (hx : xs.length ≤ 1000000) : CallW Try.prog G0 62 [.agg ((encW xs a b c).map .i)] [] (fun r st' => r = .i (.int .i64 (codeW xs a b c)) ∧ st' = []) := by
  refine call_of_bodyF 0 (Nat.le_refl _) Try.func62 rfl (fun a w => Try.call62 a w) (wpx_ok (own := own0) _ _ _ ?_)
  repeat ((conv => whnf); first | refine Br.t ?_ | refine Br.f ?_ | refine ⟨rfl, ?_⟩)
  conv => whnf
  refine Br.mk (fun h => ?_) (fun h => ?_)
  · simp at h
    repeat ((conv => whnf); first | refine Br.t ?_ | refine Br.f ?_ | refine ⟨rfl, ?_⟩)
    conv => whnf
    have hc : codeS xs = 4 := by simp only [codeS]; rw [if_pos (by omega)]
    refine fin (target := []) rfl (Nat.zero_le _) (by simp) ?_ rfl
    simp [codeW, hc]
  · simp at h
    repeat ((conv => whnf); first | refine Br.t ?_ | refine Br.f ?_ | refine ⟨rfl, ?_⟩)
    conv => whnf
    refine loop_ok (α := Nat) (fun i => ⟨mkS 66 [(1, .ptr 0 0 0 0), (3, .i (.int .i64 i))], [row0 xs a b c]⟩) (fun i => i ≤ xs.length ∧ (xs.take i).all okP = true) (fun i => xs.length - i) 0 ⟨Nat.zero_le _, rfl⟩
      (Le.slots (by simp [leS, mkS])) (fun i hi => wpx_ok (own := own0) _ _ _ ?_)
    obtain ⟨h1, h2⟩ := hi
    repeat ((conv => whnf); first | refine Br.t ?_ | refine Br.f ?_ | refine ⟨rfl, ?_⟩)
    conv => whnf
    refine Br.mk (fun h3 => ?_) (fun h3 => ?_)
    · simp at h3
      conv => whnf
      obtain ⟨x, hxi⟩ : ∃ x, x = xs[i] := ⟨_, rfl⟩
      have e : (xs.map encP).getD (i : Int).toNat [] = encP x := by rw [hxi]; exact getD_enc h3
      have htk : xs.take (i + 1) = xs.take i ++ [x] := by rw [hxi]; simp
      repeat ((conv => whnf); first | refine Br.t ?_ | refine Br.f ?_ | refine ⟨rfl, ?_⟩)
      conv => whnf
      rw [e]
      refine ⟨⟨by omega, by simp; omega, rfl⟩, ?_⟩
      repeat ((conv => whnf); first | refine Br.t ?_ | refine Br.f ?_ | refine ⟨rfl, ?_⟩)
      conv => whnf
      refine Br.mk (fun h4 => ?_) (fun h4 => ?_)
      · simp at h4
        repeat ((conv => whnf); first | refine Br.t ?_ | refine Br.f ?_ | refine ⟨rfl, ?_⟩)
        conv => whnf
        have hc : codeS xs = 1 := codeS_bad (by omega) (hxi ▸ List.getElem_mem h3) (by simp only [okP]; simp; omega)
        refine fin (target := []) rfl (Nat.zero_le _) (by simp) ?_ rfl
        simp [codeW, hc]
      · simp at h4
        repeat ((conv => whnf); first | refine Br.t ?_ | refine Br.f ?_ | refine ⟨rfl, ?_⟩)
        conv => whnf
        rw [e]
        refine ⟨⟨by omega, by simp; omega, rfl⟩, ?_⟩
        repeat ((conv => whnf); first | refine Br.t ?_ | refine Br.f ?_ | refine ⟨rfl, ?_⟩)
        conv => whnf
        refine Br.mk (fun h5 => ?_) (fun h5 => ?_)
        · simp at h5
          repeat ((conv => whnf); first | refine Br.t ?_ | refine Br.f ?_ | refine ⟨rfl, ?_⟩)
          conv => whnf
          have hc : codeS xs = 1 := codeS_bad (by omega) (hxi ▸ List.getElem_mem h3) (by simp only [okP]; simp; omega)
          refine fin (target := []) rfl (Nat.zero_le _) (by simp) ?_ rfl
          simp [codeW, hc]
        · simp at h5
          repeat ((conv => whnf); first | refine Br.t ?_ | refine Br.f ?_ | refine ⟨rfl, ?_⟩)
          conv => whnf
          refine ⟨i + 1, ⟨by omega, ?_⟩, by omega, Le.slots ?_⟩
          · rw [htk, List.all_append, h2]
            have : okP x = true := by simp only [okP]; simp; omega
            simp [this]
          · simp [leS, mkS]
            exact i64_id (by omega) (by omega)
    · simp at h3
      have e : xs.take i = xs := List.take_of_length_le h3
      have hc : codeS xs = 0 := by rw [e] at h2; simp only [codeS]; rw [if_neg (by omega), if_pos h2]
      repeat ((conv => whnf); first | refine Br.t ?_ | refine Br.f ?_ | refine ⟨rfl, ?_⟩)
      conv => whnf
      refine Br.mk (fun h5 => ?_) (fun h5 => ?_)
      · repeat ((conv => whnf); first | refine Br.t ?_ | refine Br.f ?_ | refine ⟨rfl, ?_⟩)
        conv => whnf
        have ho : okW a b c = false := by simp at h5; simp only [okW]; simp; omega
        refine fin (target := []) rfl (Nat.zero_le _) (by simp) ?_ rfl
        simp [codeW, hc, ho]
      · repeat ((conv => whnf); first | refine Br.t ?_ | refine Br.f ?_ | refine ⟨rfl, ?_⟩)
        conv => whnf
        refine Br.mk (fun h6 => ?_) (fun h6 => ?_)
        · repeat ((conv => whnf); first | refine Br.t ?_ | refine Br.f ?_ | refine ⟨rfl, ?_⟩)
          conv => whnf
          have ho : okW a b c = false := by simp at h5 h6; simp only [okW]; simp; omega
          refine fin (target := []) rfl (Nat.zero_le _) (by simp) ?_ rfl
          simp [codeW, hc, ho]
        · repeat ((conv => whnf); first | refine Br.t ?_ | refine Br.f ?_ | refine ⟨rfl, ?_⟩)
          conv => whnf
          refine Br.mk (fun h7 => ?_) (fun h7 => ?_)
          · repeat ((conv => whnf); first | refine Br.t ?_ | refine Br.f ?_ | refine ⟨rfl, ?_⟩)
            conv => whnf
            have ho : okW a b c = false := by simp at h5 h6 h7; simp only [okW]; simp; omega
            refine fin (target := []) rfl (Nat.zero_le _) (by simp) ?_ rfl
            simp [codeW, hc, ho]
          · repeat ((conv => whnf); first | refine Br.t ?_ | refine Br.f ?_ | refine ⟨rfl, ?_⟩)
            conv => whnf
            refine Br.mk (fun h8 => ?_) (fun h8 => ?_)
            · repeat ((conv => whnf); first | refine Br.t ?_ | refine Br.f ?_ | refine ⟨rfl, ?_⟩)
              conv => whnf
              have ho : okW a b c = false := by simp at h5 h6 h7 h8; simp only [okW]; simp; omega
              refine fin (target := []) rfl (Nat.zero_le _) (by simp) ?_ rfl
              simp [codeW, hc, ho]
            · repeat ((conv => whnf); first | refine Br.t ?_ | refine Br.f ?_ | refine ⟨rfl, ?_⟩)
              conv => whnf
              refine Br.mk (fun h9 => ?_) (fun h9 => ?_)
              · repeat ((conv => whnf); first | refine Br.t ?_ | refine Br.f ?_ | refine ⟨rfl, ?_⟩)
                conv => whnf
                have ho : okW a b c = false := by simp at h5 h6 h7 h8 h9; simp only [okW]; simp; omega
                refine fin (target := []) rfl (Nat.zero_le _) (by simp) ?_ rfl
                simp [codeW, hc, ho]
              · repeat ((conv => whnf); first | refine Br.t ?_ | refine Br.f ?_ | refine ⟨rfl, ?_⟩)
                conv => whnf
                refine Br.mk (fun h10 => ?_) (fun h10 => ?_)
                · repeat ((conv => whnf); first | refine Br.t ?_ | refine Br.f ?_ | refine ⟨rfl, ?_⟩)
                  conv => whnf
                  have ho : okW a b c = false := by simp at h5 h6 h7 h8 h9 h10; simp only [okW]; simp; omega
                  refine fin (target := []) rfl (Nat.zero_le _) (by simp) ?_ rfl
                  simp [codeW, hc, ho]
                · repeat ((conv => whnf); first | refine Br.t ?_ | refine Br.f ?_ | refine ⟨rfl, ?_⟩)
                  conv => whnf
                  refine Br.mk (fun h11 => ?_) (fun h11 => ?_)
                  · repeat ((conv => whnf); first | refine Br.t ?_ | refine Br.f ?_ | refine ⟨rfl, ?_⟩)
                    conv => whnf
                    have ho : okW a b c = false := by simp at h5 h6 h7 h8 h9 h10 h11; simp only [okW]; simp; omega
                    refine fin (target := []) rfl (Nat.zero_le _) (by simp) ?_ rfl
                    simp [codeW, hc, ho]
                  · repeat ((conv => whnf); first | refine Br.t ?_ | refine Br.f ?_ | refine ⟨rfl, ?_⟩)
                    conv => whnf
                    have ho : okW a b c = true := by simp at h5 h6 h7 h8 h9 h10 h11; simp only [okW]; simp; omega
                    refine fin (target := []) rfl (Nat.zero_le _) (by simp) ?_ rfl
                    simp [codeW, hc, ho]
theorem apG {sz by_ len esl : Nat} {es : List (List I)} (hes : ∀ cs ∈ es, cs.length = sz) (b : Nat) (hb : by_ = b) (h1 : len = esl) (h2 : (len + es.length) * b ≤ 140737488355328) (h3 : len + es.length ≤ Go.maxLen) :
    (∀ cs ∈ es, cs.length = sz) ∧ len = esl ∧ (len + (lift es).length) * by_ ≤ 140737488355328 ∧ len + (lift es).length ≤ Go.maxLen := by
  subst hb
  have : (lift es).length = es.length := by simp [lift]
  rw [this]
  exact ⟨hes, h1, h2, h3⟩
def dec (b : Nat) : Int × Bool := ((b % 8 : Nat), decide (8 ≤ b))
def badAt : Nat → List Nat → Option Nat
  | _, [] => none
  | i, b :: r => if 16 ≤ b then some i else badAt (i + 1) r
def getS (bs : List Nat) : List (Int × Bool) × Nat × Nat := if 4096 < bs.length then ([], 0, 4) else match badAt 0 bs with | some i => ([], i, 3) | none => (bs.map dec, 0, 0)
theorem get39 (bs : List Nat) (hl : bs.length ≤ 1000000) (hb : ∀ b ∈ bs, b < 256) : CallW Try.prog G0 89 [.i (.sl (bs.map by8))] []
    (fun r st' => r = .tup [.i (.sl ((getS bs).1.map encP)), .agg [.i (.int .i64 (getS bs).2.1), .i (.int .i64 (getS bs).2.2)]] ∧ st' = []) := by
  refine call_of_bodyF 0 (Nat.le_refl _) Try.func89 rfl (fun a w => Try.call89 a w) (wpx_ok (own := own0) _ _ _ ?_)
  repeat ((conv => whnf); first | refine Br.t ?_ | refine Br.f ?_ | refine ⟨rfl, ?_⟩)
  conv => whnf
  refine Br.mk (fun h => ?_) (fun h => ?_)
  · simp at h
    have e : getS bs = ([], 0, 4) := by unfold getS; rw [if_pos (by omega)]
    rw [e]
    repeat ((conv => whnf); first | refine Br.t ?_ | refine Br.f ?_ | refine ⟨rfl, ?_⟩)
    conv => whnf
    refine fin (target := []) rfl (Nat.zero_le _) (by simp) rfl rfl
  · simp at h
    have e0 : getS bs = match badAt 0 bs with | some i => ([], i, 3) | none => (bs.map dec, 0, 0) := by unfold getS; rw [if_neg (by omega)]
    repeat ((conv => whnf); first | refine Br.t ?_ | refine Br.f ?_ | refine ⟨rfl, ?_⟩)
    conv => whnf
    refine loop_ok (α := Nat) (fun i => ⟨mkS 34 [(3, .ptr 0 0 0 0), (4, .ref 1 1 0 i), (11, .i (.sl (bs.map by8))), (12, .i (.int .i64 (bs.map by8).length)), (13, .i (.int .i64 i))], [.row 0 2 false [[.i (.int .i64 0), .i (.int .i64 0)]], .row 1 2 false (lift ((bs.take i).map fun b => encP (dec b)))]⟩)
      (fun i => i ≤ bs.length ∧ badAt 0 bs = badAt i (bs.drop i)) (fun i => bs.length - i) 0 ⟨Nat.zero_le _, rfl⟩
      ((Le.nil (n := 0) 4 2 rfl).trans (Le.slots (by simp [leS, mkS]))) (fun i hi => wpx_ok (own := own0) _ _ _ ?_)
    obtain ⟨h1, h2⟩ := hi
    repeat ((conv => whnf); first | refine Br.t ?_ | refine Br.f ?_ | refine ⟨rfl, ?_⟩)
    conv => whnf
    refine Br.mk (fun h3 => ?_) (fun h3 => ?_)
    · simp at h3
      obtain ⟨b, hbi⟩ : ∃ b, b = bs[i] := ⟨_, rfl⟩
      have e : (bs.map by8).getD (i : Int).toNat [] = by8 b := by rw [hbi]; exact getD_enc h3
      have ed : bs.drop i = b :: bs.drop (i + 1) := by rw [hbi]; exact List.drop_eq_getElem_cons h3
      have et : bs.take (i + 1) = bs.take i ++ [b] := by rw [hbi]; simp
      have hb' : b < 256 := hb b (hbi ▸ List.getElem_mem h3)
      rw [ed, badAt] at h2
      repeat ((conv => whnf); first | refine Br.t ?_ | refine Br.f ?_ | refine ⟨rfl, ?_⟩)
      conv => whnf
      rw [e]
      refine ⟨⟨by omega, by simp; omega, rfl⟩, ?_⟩
      repeat ((conv => whnf); first | refine Br.t ?_ | refine Br.f ?_ | refine ⟨rfl, ?_⟩)
      conv => whnf
      refine Br.mk (fun h4 => ?_) (fun h4 => ?_)
      · simp at h4
        rw [if_pos (by omega)] at h2
        rw [h2] at e0
        rw [e0]
        repeat ((conv => whnf); first | refine Br.t ?_ | refine Br.f ?_ | refine ⟨rfl, ?_⟩)
        conv => whnf
        refine fin (target := []) rfl (Nat.zero_le _) (by simp) rfl rfl
      · simp at h4
        rw [if_neg (by omega)] at h2
        repeat ((conv => whnf); first | refine Br.t ?_ | refine Br.f ?_ | refine ⟨rfl, ?_⟩)
        conv => whnf
        refine ⟨by decide, ?_⟩
        repeat ((conv => whnf); first | refine Br.t ?_ | refine Br.f ?_ | refine ⟨rfl, ?_⟩)
        conv => whnf
        refine ⟨apG (es := [[.int .i64 (IntKind.i64.wrap ((b : Int).tmod 8)), .bool (decide ((b : Int) ≥ 8))]]) (by intro cs hcs; simp at hcs; subst hcs; rfl) 16 rfl (by simp [lift]; omega) (by simp; omega) (len_mx (by simp; omega)), ?_⟩
        repeat ((conv => whnf); first | refine Br.t ?_ | refine Br.f ?_ | refine ⟨rfl, ?_⟩)
        conv => whnf
        refine ⟨i + 1, ⟨by omega, h2⟩, by omega, Le.down (fun id => if id = 1 then 1 else 0) (by intro id hid; simp at hid) ?_ ?_⟩
        · simp [leS, mkS, V.up, lift]
          exact i64_id (by omega) (by omega)
        · simp only [upSt, Ob.up, map_up_lift]
          rw [et, List.map_append, lift_app]
          have e9 : [[I.int .i64 (IntKind.i64.wrap ((b : Int).tmod 8)), .bool (decide ((b : Int) ≥ 8))]] = [b].map fun b => encP (dec b) := by
            have x1 : IntKind.i64.wrap ((b : Int).tmod 8) = ((b % 8 : Nat) : Int) := by
              rw [Int.tmod_eq_emod_of_nonneg (by omega), i64_id (by omega) (by omega)]; omega
            rw [x1]
            simp [encP, dec]
            omega
          rw [← e9]
          rfl
    · simp at h3
      have hin : i = bs.length := by omega
      subst hin
      rw [List.drop_length, badAt] at h2
      rw [h2] at e0
      rw [e0]
      repeat ((conv => whnf); first | refine Br.t ?_ | refine Br.f ?_ | refine ⟨rfl, ?_⟩)
      conv => whnf
      refine ⟨Nat.zero_le _, rfl, (bs.take bs.length).map fun b => encP (dec b), rfl, ?_⟩
      conv => whnf
      refine fin (target := []) rfl (Nat.zero_le _) (by simp) ?_ rfl
      rw [List.take_length, List.drop_zero, List.take_of_length_le (by simp)]
      simp
end Go.Proofs.Ytiikndppckjmhaa.Am

/- Contracts: picks of who may do no step change nothing of what a script comes to. -/
namespace Go.Proofs.Ytiikndppckjmhaa.Am
set_option autoImplicit false
set_option linter.unusedVariables false
set_option linter.unusedSimpArgs false
set_option maxRecDepth 10000
set_option pp.maxSteps 3000
set_option pp.proofs false
theorem scriptawake : CallW Try.prog G0 52 [] [] (fun r st' => r = .i (.bool true) ∧ st' = []) := by
  refine call_of_bodyF 0 (Nat.le_refl _) Try.func52 rfl (fun a w => Try.call52 a w) (wpx_ok (own := own0) _ _ _ ?_)
  have cg : CallW Try.prog G0 89 [.i (.sl [by8 9])] [] (fun r st' => r = .tup [.i (.sl [encP (1, true)]), .agg [.i (.int .i64 0), .i (.int .i64 0)]] ∧ st' = []) := get39 [9] (by decide) (by decide)
  have cp : CallW Try.prog G0 90 [.i (.sl [encP (1, true)])] [] (fun r st' => r = .tup [.i (.sl [by8 9]), .i (.int .i64 0)] ∧ st' = []) := put25 [(1, true)] (by decide)
  repeat ((conv => whnf); first | refine Br.t ?_ | refine Br.f ?_ | refine ⟨rfl, ?_⟩)
  conv => whnf
  refine CallW.mono (cg.pure _ rfl rfl) ?_
  rintro r st' ⟨rfl, rfl⟩
  repeat ((conv => whnf); first | refine Br.t ?_ | refine Br.f ?_ | refine ⟨rfl, ?_⟩)
  conv => whnf
  refine CallW.mono (cp.pure _ rfl rfl) ?_
  rintro r st' ⟨rfl, rfl⟩
  repeat ((conv => whnf); first | refine Br.t ?_ | refine Br.f ?_ | refine ⟨rfl, ?_⟩)
  conv => whnf
  refine ⟨by kernel_rfl, ?_⟩
  repeat ((conv => whnf); first | refine Br.t ?_ | refine Br.f ?_ | refine ⟨rfl, ?_⟩)
  conv => whnf
  refine ⟨⟨by decide, by decide, rfl⟩, ?_⟩
  repeat ((conv => whnf); first | refine Br.t ?_ | refine Br.f ?_ | refine ⟨rfl, ?_⟩)
  conv => whnf
  refine ⟨by kernel_rfl, ?_⟩
  repeat ((conv => whnf); first | refine Br.t ?_ | refine Br.f ?_ | refine ⟨rfl, ?_⟩)
  conv => whnf
  refine ⟨⟨fun cs hcs => by simp at hcs; subst hcs; rfl, fun cs hcs => by simp [lift] at hcs; subst hcs; trivial⟩, ?_⟩
  repeat ((conv => whnf); first | refine Br.t ?_ | refine Br.f ?_ | refine ⟨rfl, ?_⟩)
  conv => whnf
  refine fin (target := []) rfl (Nat.zero_le _) (by simp) rfl rfl
def idB (p : Pg) (c : Cfg) (M : List (Int × Bool)) : List Ob := [pgB p, cfgB c, .row 1 2 false (lift (M.map encP))]
def idS (l : List (Int × Bool)) (w : Nat) (M : List (Int × Bool)) (i : Nat) (x : List (Nat × V)) : List V := mkS 95 ([(1, .i (.sl (l.map encP))), (2, .i (.int .u8 (w : Nat))), (3, .ptr 0 0 0 0), (7, .ptr 1 0 0 0), (9, .ref 2 1 0 M.length), (10, .i (.int .i64 i))] ++ x)
theorem idB_cl (p : Pg) (c : Cfg) (M : List (Int × Bool)) (m : Nat) : ∀ o ∈ idB p c M, o.cl m := by
  intro o ho
  simp only [idB, List.mem_cons, List.not_mem_nil, or_false] at ho
  rcases ho with rfl | rfl | rfl
  · exact pgB_cl p m
  · exact cfgB_cl _ m
  · exact cl_lift _ _ _ _ _
set_option maxHeartbeats 4000000 in
theorem idle_t (p : Pg) (hp : PgOk p) (l : List (Int × Bool)) (w : Nat) (hw : w < 256) (c : Cfg) (hc : OkC p c) (i : Nat) (hi : i ≤ 1000) (M : List (Int × Bool)) (hM : M.length ≤ 10 * i) (hr : runC p cfg0 M = c) :
    W Try.prog G0 0 (.loop (lp Try.f14 1)) (fun e s => e = .exit 2 ∧ ∃ M' : List (Int × Bool), M'.length ≤ 10 * i + 9 ∧ runC p cfg0 M' = c ∧ s = ⟨idS l w M' i [], idB p c M'⟩) ⟨idS l w M i [(11, .i (.int .i64 0))], idB p c M⟩ := by
  refine W.weak (loop_ok (α := Nat × List (Int × Bool)) (fun x => ⟨idS l w x.2 i [(11, .i (.int .i64 x.1))], idB p c x.2⟩)
    (fun x => x.1 ≤ 9 ∧ x.2.length ≤ 10 * i + x.1 ∧ runC p cfg0 x.2 = c) (fun x => 9 - x.1) (0, M) ⟨Nat.zero_le _, by simpa using hM, hr⟩ (Le.refl _ _) (fun x hx => wpx_ok (own := own0) _ _ _ ?_))
  obtain ⟨t, M1⟩ := x
  obtain ⟨h1, h2, h3⟩ := hx
  simp only at h1 h2 h3 ⊢
  have hd0 : IntKind.i64.wrap (1 + (IntKind.i64.wrap (w : Int)).tmod 5) ≠ 0 := by
    rw [i64_id (n := (w : Int)) (by omega) (by omega), Int.tmod_eq_emod_of_nonneg (by omega), i64_id (by omega) (by omega)]; omega
  repeat ((conv => whnf); first | refine Br.t ?_ | refine Br.f ?_ | refine ⟨rfl, ?_⟩)
  conv => whnf
  refine Br.mk (fun g => ?_) (fun g => ?_)
  · have g : t < 9 := by simp at g; omega
    repeat ((conv => whnf); first | refine Br.t ?_ | refine Br.f ?_ | refine ⟨rfl, ?_⟩)
    conv => whnf
    refine ⟨by decide, ?_⟩
    repeat ((conv => whnf); first | refine Br.t ?_ | refine Br.f ?_ | refine ⟨rfl, ?_⟩)
    conv => whnf
    refine ⟨hd0, ?_⟩
    repeat ((conv => whnf); first | refine Br.t ?_ | refine Br.f ?_ | refine ⟨rfl, ?_⟩)
    conv => whnf
    have nxt : ∀ s, Le 0 s ⟨idS l w M1 i [(11, .i (.int .i64 ((t + 1 : Nat) : Int)))], idB p c M1⟩ → ∃ y : Nat × List (Int × Bool), (y.1 ≤ 9 ∧ y.2.length ≤ 10 * i + y.1 ∧ runC p cfg0 y.2 = c) ∧ 9 - y.1 < 9 - t ∧ Le 0 s ⟨idS l w y.2 i [(11, .i (.int .i64 y.1))], idB p c y.2⟩ :=
      fun s hs => ⟨(t + 1, M1), ⟨by simp only; omega, by simp only; omega, h3⟩, by simp only; omega, hs⟩
    have et : IntKind.i64.wrap ((t : Int) + 1) = ((t + 1 : Nat) : Int) := i64_id (by omega) (by omega)
    refine Br.mk (fun g2 => ?_) (fun g2 => ?_)
    · repeat ((conv => whnf); first | refine Br.t ?_ | refine Br.f ?_ | refine ⟨rfl, ?_⟩)
      conv => whnf
      refine CallW.mono ((enabled_ok p hp c hc t).pure _ rfl rfl) ?_
      rintro r st' ⟨rfl, rfl⟩
      cases he : enab p c t with
      | true =>
        repeat ((conv => whnf); first | refine Br.t ?_ | refine Br.f ?_ | refine ⟨rfl, ?_⟩)
        conv => whnf
        refine nxt _ (Le.slots ?_)
        simp [leS, mkS, idS, et]
      | false =>
        repeat ((conv => whnf); first | refine Br.t ?_ | refine Br.f ?_ | refine ⟨rfl, ?_⟩)
        conv => whnf
        refine ⟨by decide, ?_⟩
        repeat ((conv => whnf); first | refine Br.t ?_ | refine Br.f ?_ | refine ⟨rfl, ?_⟩)
        conv => whnf
        refine ⟨apG (es := [[.int .i64 (t : Int), .bool ((i : Int).tmod 2 == 0)]]) (by intro cs hcs; simp at hcs; subst hcs; rfl) 16 rfl (by simp [lift]) (by simp; omega) (len_mx (by simp; omega)), ?_⟩
        repeat ((conv => whnf); first | refine Br.t ?_ | refine Br.f ?_ | refine ⟨rfl, ?_⟩)
        conv => whnf
        refine ⟨(t + 1, M1 ++ [((t : Int), (i : Int).tmod 2 == 0)]), ⟨by simp only; omega, by simp; omega, ?_⟩, by simp only; omega, Le.down (fun id => if id = 2 then 1 else 0) (by intro id hid; simp at hid) ?_ ?_⟩
        · rw [runC, List.foldl_append]
          show stepC p (runC p cfg0 M1) _ _ = c
          rw [h3]
          exact step_no _ _ he
        · simp [leS, mkS, idS, V.up, lift, et]
        · have e9 : lift ((M1 ++ [((t : Int), (i : Int).tmod 2 == 0)]).map encP) = lift (M1.map encP) ++ lift [[.int .i64 (t : Int), .bool ((i : Int).tmod 2 == 0)]] := by rw [List.map_append, lift_app]; rfl
          unfold idB
          simp only [upSt, Ob.up, map_up_lift]
          rw [e9]
          rfl
    · repeat ((conv => whnf); first | refine Br.t ?_ | refine Br.f ?_ | refine ⟨rfl, ?_⟩)
      conv => whnf
      refine nxt _ (Le.slots ?_)
      simp [leS, mkS, idS, et]
  · have g : t = 9 := by simp at g; omega
    repeat ((conv => whnf); first | refine Br.t ?_ | refine Br.f ?_ | refine ⟨rfl, ?_⟩)
    conv => whnf
    exact ⟨⟨idS l w M1 i [], idB p c M1⟩, Le.slots (by simp [leS, mkS, idS]), rfl, M1, by omega, h3, rfl⟩
set_option maxHeartbeats 4000000 in
theorem idle_i (p : Pg) (hp : PgOk p) (l : List (Int × Bool)) (hl : l.length ≤ 120) (w : Nat) (hw : w < 256) :
    W Try.prog G0 0 (.loop (lp Try.f14 0)) (fun e s => e = .exit 0 ∧ ∃ M' : List (Int × Bool), M'.length ≤ 1200 ∧ runC p cfg0 M' = runC p cfg0 l ∧ s = ⟨mkS 95 [(3, .ptr 0 0 0 0), (7, .ptr 1 0 0 0), (9, .i (.sl (M'.map encP)))], [pgB p, cfgB (runC p cfg0 l), .dead]⟩) ⟨mkS 95 [(1, .i (.sl (l.map encP))), (2, .i (.int .u8 (w : Nat))), (3, .ptr 0 0 0 0), (7, .ptr 1 0 0 0), (9, .nils), (10, .i (.int .i64 0))], [pgB p, cfgB cfg0]⟩ := by
  refine W.weak (loop_ok (α := Nat × List (Int × Bool)) (fun x => ⟨idS l w x.2 x.1 [], idB p (runC p cfg0 (l.take x.1)) x.2⟩)
    (fun x => x.1 ≤ l.length ∧ x.2.length ≤ 10 * x.1 ∧ runC p cfg0 x.2 = runC p cfg0 (l.take x.1)) (fun x => l.length - x.1) (0, []) ⟨Nat.zero_le _, Nat.zero_le _, rfl⟩ ((Le.nil (n := 0) 9 2 rfl).trans (Le.slots (by simp [leS, mkS, idS]))) (fun x hx => wpx_ok (own := own0) _ _ _ ?_))
  obtain ⟨i, M⟩ := x
  obtain ⟨h1, h2, h3⟩ := hx
  simp only at h1 h2 h3 ⊢
  have hc : OkC p (runC p cfg0 (l.take i)) := runC_ok hp _ (cfg0_ok hp)
  have ei : IntKind.i64.wrap ((i : Int) + 1) = ((i + 1 : Nat) : Int) := i64_id (by omega) (by omega)
  repeat ((conv => whnf); first | refine Br.t ?_ | refine Br.f ?_ | refine ⟨rfl, ?_⟩)
  conv => whnf
  refine Br.mk (fun g => ?_) (fun g => ?_)
  · have g : i < l.length := by simp at g; omega
    obtain ⟨x, hx⟩ : ∃ x, l[i]? = some x := ⟨_, List.getElem?_eq_getElem g⟩
    have ex : (l.map encP).getD (i : Int).toNat [] = encP x := by rw [Int.toNat_natCast]; simp [List.getD_eq_getElem?_getD, hx]
    have cs := semstep p hp _ hc x.1 x.2
    have en : runC p cfg0 (l.take (i + 1)) = stepC p (runC p cfg0 (l.take i)) x.1 x.2 := run_snoc p cfg0 l i x hx
    repeat ((conv => whnf); first | refine Br.t ?_ | refine Br.f ?_ | refine ⟨rfl, ?_⟩)
    conv => whnf
    refine W.le (s' := ⟨idS l w M i [(11, .i (.int .i64 0))], idB p (runC p cfg0 (l.take i)) M⟩) (Le.slots (by simp [leS, mkS, idS])) (W.mono (idle_t p hp l w hw _ hc i (by omega) M h2 h3) ?_)
    rintro e s ⟨rfl, M1, m1, m2, rfl⟩
    repeat ((conv => whnf); first | refine Br.t ?_ | refine Br.f ?_ | refine ⟨rfl, ?_⟩)
    conv => whnf
    rw [ex]
    refine ⟨⟨by omega, by simp; omega, rfl⟩, ?_⟩
    repeat ((conv => whnf); first | refine Br.t ?_ | refine Br.f ?_ | refine ⟨rfl, ?_⟩)
    conv => whnf
    refine ⟨apG (es := [encP x]) (by intro cs hcs; simp at hcs; subst hcs; rfl) 16 rfl (by simp [lift]) (by simp; omega) (len_mx (by simp; omega)), ?_⟩
    repeat ((conv => whnf); first | refine Br.t ?_ | refine Br.f ?_ | refine ⟨rfl, ?_⟩)
    conv => whnf
    have e9 : lift ((M1 ++ [x]).map encP) = lift (M1.map encP) ++ lift [encP x] := by rw [List.map_append, lift_app]; rfl
    refine W.le (s' := ⟨idS l w (M1 ++ [x]) i [], idB p (runC p cfg0 (l.take i)) (M1 ++ [x])⟩) (Le.down (fun id => if id = 2 then 1 else 0) (by intro id hid; simp at hid) (by simp [leS, mkS, idS, V.up, lift]) (by unfold idB; simp only [upSt, Ob.up, map_up_lift]; rw [e9]; rfl)) ?_
    refine draw_ok (own := own0) [7] [] [(cfgV (stepC p (runC p cfg0 (l.take i)) x.1 x.2), idB p (runC p cfg0 (l.take i)) (M1 ++ [x]))] rfl (by kernel_rfl) (Nat.zero_le _) ?_
    repeat ((conv => whnf); first | refine Br.t ?_ | refine Br.f ?_ | refine ⟨rfl, ?_⟩)
    conv => whnf
    rw [ex]
    refine ⟨⟨by omega, by simp; omega, rfl⟩, ?_⟩
    repeat ((conv => whnf); first | refine Br.t ?_ | refine Br.f ?_ | refine ⟨rfl, ?_⟩)
    conv => whnf
    refine ⟨cs.pure _ rfl rfl, ?_⟩
    repeat ((conv => whnf); first | refine Br.t ?_ | refine Br.f ?_ | refine ⟨rfl, ?_⟩)
    conv => whnf
    refine ⟨by repeat ((conv => whnf); first | exact trivial | refine ⟨rfl, ?_⟩), trivial, ?_⟩
    conv => whnf
    repeat ((conv => whnf); first | refine Br.t ?_ | refine Br.f ?_ | refine ⟨rfl, ?_⟩)
    conv => whnf
    refine ⟨(i + 1, M1 ++ [x]), ⟨g, by simp; omega, ?_⟩, (by show l.length - (i + 1) < l.length - i; omega), ?_⟩
    · show runC p cfg0 (M1 ++ [x]) = runC p cfg0 (l.take (i + 1))
      rw [en, runC, List.foldl_append]
      show stepC p (runC p cfg0 M1) _ _ = _
      rw [m2]
    · rw [en]
      exact Le.slots (by simp [leS, mkS, idS, ei])
  · have g : i = l.length := by simp at g; omega
    subst g
    repeat ((conv => whnf); first | refine Br.t ?_ | refine Br.f ?_ | refine ⟨rfl, ?_⟩)
    conv => whnf
    refine ⟨_, (Le.data 2 1 2 (M.map encP) (s := ⟨mkS 95 [(3, .ptr 0 0 0 0), (7, .ptr 1 0 0 0), (9, .i (.sl (M.map encP)))], [pgB p, cfgB (runC p cfg0 l), .dead]⟩) rfl ?_ ?_), rfl, M, by omega, by rw [h3, List.take_length], rfl⟩
    · simp [leS, mkS, idS, V.dat, List.take_of_length_le]
    · rw [List.take_length]
      rfl
set_option maxHeartbeats 4000000 in
theorem scriptidle (p : Pg) (hp0 : okPg p) (l : List (Int × Bool)) (hl : okL l) (w : Nat) (hw : w < 256) : CallW Try.prog G0 14 [pgV p, .i (.sl (l.map encP)), .i (.int .u8 (w : Nat))] [] (fun r st' => r = .i (.bool true) ∧ st' = []) := by
  refine call_of_bodyF 0 (Nat.le_refl _) Try.func14 rfl (fun a w => Try.call14 a w) (wpx_ok (own := own0) _ _ _ ?_)
  unfold okL at hl
  repeat ((conv => whnf); first | refine Br.t ?_ | refine Br.f ?_ | refine ⟨rfl, ?_⟩)
  conv => whnf
  refine CallW.mono (scriptawake.pure _ rfl rfl) ?_
  rintro r st' ⟨rfl, rfl⟩
  repeat ((conv => whnf); first | refine Br.t ?_ | refine Br.f ?_ | refine ⟨rfl, ?_⟩)
  conv => whnf
  refine CallW.mono ((small16 p hp0).pure _ rfl rfl) ?_
  rintro r st' ⟨rfl, rfl⟩
  repeat ((conv => whnf); first | refine Br.t ?_ | refine Br.f ?_ | refine ⟨rfl, ?_⟩)
  conv => whnf
  refine Br.mk (fun z => ?_) (fun z => ?_)
  · repeat ((conv => whnf); first | refine Br.t ?_ | refine Br.f ?_ | refine ⟨rfl, ?_⟩)
    conv => whnf
    refine CallW.mono (scriptawake.pure _ rfl rfl) ?_
    rintro r st' ⟨rfl, rfl⟩
    repeat ((conv => whnf); first | refine Br.t ?_ | refine Br.f ?_ | refine ⟨rfl, ?_⟩)
    conv => whnf
    refine fin (target := []) rfl (Nat.zero_le _) (by simp) rfl rfl
  repeat ((conv => whnf); first | refine Br.t ?_ | refine Br.f ?_ | refine ⟨rfl, ?_⟩)
  conv => whnf
  refine Br.mk (fun z2 => ?_) (fun z2 => ?_)
  · repeat ((conv => whnf); first | refine Br.t ?_ | refine Br.f ?_ | refine ⟨rfl, ?_⟩)
    conv => whnf
    refine CallW.mono (scriptawake.pure _ rfl rfl) ?_
    rintro r st' ⟨rfl, rfl⟩
    repeat ((conv => whnf); first | refine Br.t ?_ | refine Br.f ?_ | refine ⟨rfl, ?_⟩)
    conv => whnf
    refine fin (target := []) rfl (Nat.zero_le _) (by simp) rfl rfl
  have hll : l.length ≤ 120 := by simp at z2; omega
  repeat ((conv => whnf); first | refine Br.t ?_ | refine Br.f ?_ | refine ⟨rfl, ?_⟩)
  conv => whnf
  refine CallW.mono ((start_ok p hp0).pure _ rfl rfl) ?_
  rintro r st' ⟨rfl, rfl⟩
  repeat ((conv => whnf); first | refine Br.t ?_ | refine Br.f ?_ | refine ⟨rfl, ?_⟩)
  conv => whnf
  by_cases h0 : (chk p).2.2 = 0
  · have hp := chk_zero h0
    have es : startC p = cfg0 := by unfold startC; rw [if_pos h0]
    have cr := run_ok p hp0
    rw [es, h0]
    repeat ((conv => whnf); first | refine Br.t ?_ | refine Br.f ?_ | refine ⟨rfl, ?_⟩)
    conv => whnf
    refine W.le (s' := ⟨mkS 95 [(1, .i (.sl (l.map encP))), (2, .i (.int .u8 (w : Nat))), (3, .ptr 0 0 0 0), (7, .ptr 1 0 0 0), (9, .nils), (10, .i (.int .i64 0))], [pgB p, cfgB cfg0]⟩) (Le.slots (by simp [leS, mkS])) (W.mono (idle_i p hp l hll w hw) ?_)
    rintro e s ⟨rfl, M, m1, m2, rfl⟩
    have cr := run_ok p hp0 M (by omega)
    rw [if_pos h0, h0, m2] at cr
    repeat ((conv => whnf); first | refine Br.t ?_ | refine Br.f ?_ | refine ⟨rfl, ?_⟩)
    conv => whnf
    refine CallW.mono (cr.pure _ rfl rfl) ?_
    rintro r st' ⟨rfl, rfl⟩
    repeat ((conv => whnf); first | refine Br.t ?_ | refine Br.f ?_ | refine ⟨rfl, ?_⟩)
    conv => whnf
    refine CallW.mono ((same_refl p hp _ (runC_ok hp l (cfg0_ok hp))).pure _ rfl rfl) ?_
    rintro r st' ⟨rfl, rfl⟩
    repeat ((conv => whnf); first | refine Br.t ?_ | refine Br.f ?_ | refine ⟨rfl, ?_⟩)
    conv => whnf
    refine fin (target := []) rfl (Nat.zero_le _) (by simp) rfl rfl
  · repeat ((conv => whnf); first | refine Br.t ?_ | refine Br.f ?_ | refine ⟨rfl, ?_⟩)
    conv => whnf
    refine Br.mk (fun _ => ?_) (fun k => absurd h0 (by simpa using k))
    repeat ((conv => whnf); first | refine Br.t ?_ | refine Br.f ?_ | refine ⟨rfl, ?_⟩)
    conv => whnf
    refine fin (target := []) rfl (Nat.zero_le _) (by simp) rfl rfl
end Go.Proofs.Ytiikndppckjmhaa.Am
