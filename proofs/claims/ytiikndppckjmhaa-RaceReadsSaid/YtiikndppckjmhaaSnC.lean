/- Contract: a config, as the document has it. -/
import Derived.Test.YtiikndppckjmhaaSnA
namespace Go.Proofs.Ytiikndppckjmhaa.Am
set_option autoImplicit false
set_option linter.unusedVariables false
set_option linter.unusedSimpArgs false
set_option maxRecDepth 10000
set_option pp.maxSteps 3000
set_option pp.proofs false
def stkI (t : Th) : List I := [.sl (t.stk.map encFr)]
def slI (t : Th) : List I := sl8 t.sl
def rcV (c : Cfg) : V := .agg (.i (.sl (c.ths.map stkI)) :: .i (.sl (c.ths.map slI)) :: (ow16 c.own).map .i)
def plZ : Ob := .row 0 18 false [.nils :: .nils :: (ow16 []).map .i]
def plB (c : Cfg) (t : Nat) : List Ob := [cfgB c, plZ, .row 0 18 false [.ref 3 1 0 t :: .ref 4 1 0 t :: (ow16 c.own).map .i], .row 1 1 false (lift ((c.ths.take t).map stkI)), .row 1 8 false (lift ((c.ths.take t).map slI))]
def plS (t : Nat) (x : List (Nat × V)) : List V := mkS 64 ([(1, .ptr 0 0 0 0), (2, .ptr 1 0 0 0), (3, .ptr 2 0 0 0), (4, .i (.int .i64 t))] ++ x)
theorem plB_cl (c : Cfg) (t : Nat) : ∀ o ∈ plB c t, o.cl 5 := by
  intro o ho
  simp only [plB, List.mem_cons, List.not_mem_nil, or_false] at ho
  rcases ho with rfl | rfl | rfl | rfl | rfl
  · exact cfgB_cl c _
  · intro cs hcs; simp only [List.mem_singleton] at hcs; subst hcs; rfl
  · intro cs hcs; simp only [List.mem_singleton] at hcs; subst hcs; rfl
  · exact row_cl 1 1 _ _ _ (List.mem_singleton.2 rfl)
  · exact row_cl 1 8 _ _ _ (List.mem_singleton.2 rfl)
def frR (L : List (Nat × Nat)) : Ob := .row 1 2 false (lift (L.map encFr))
theorem plF_cl (c : Cfg) (t : Nat) (L : List (Nat × Nat)) (m : Nat) (hm : 5 ≤ m) : ∀ o ∈ plB c t ++ [frR L], o.cl m := by
  intro o ho
  simp only [plB, List.cons_append, List.nil_append, List.mem_cons, List.not_mem_nil, or_false] at ho
  rcases ho with rfl | rfl | rfl | rfl | rfl | rfl
  · exact cfgB_cl c _
  · intro cs hcs; simp only [List.mem_singleton] at hcs; subst hcs; rfl
  · intro cs hcs; simp only [List.mem_singleton] at hcs; subst hcs
    simp [V.cl, V.cl.clAll, ow16]; omega
  · exact row_cl 1 1 _ _ _ (List.mem_singleton.2 rfl)
  · exact row_cl 1 8 _ _ _ (List.mem_singleton.2 rfl)
  · exact row_cl 1 2 _ _ _ (List.mem_singleton.2 rfl)
set_option maxHeartbeats 1000000 in
theorem plain_in (c : Cfg) (t : Nat) (th : Th) (hth : c.ths[t]? = some th) (hn : c.ths.length ≤ 8) (hh : th.stk.length ≤ 16) :
    W Try.prog G0 0 (.loop (lp Try.f31 1)) (fun e s' => e = .exit 2 ∧ s' = ⟨plS t [(5, .i (.sl (th.stk.map encFr)))], plB c t⟩) ⟨plS t [(5, .ref 5 1 0 (th.stk.take 0).length), (6, .i (.int .i64 0))], plB c t ++ [frR (th.stk.take 0)]⟩ := by
  have htl := lt_some hth
  refine W.weak (loop_ok (α := Nat) (fun j => ⟨plS t [(5, .ref 5 1 0 (th.stk.take j).length), (6, .i (.int .i64 j))], plB c t ++ [frR (th.stk.take j)]⟩)
    (fun j => j ≤ th.stk.length) (fun j => th.stk.length - j) 0 (Nat.zero_le _) (Le.refl _ _) (fun j hj => wpx_ok (own := own0) _ _ _ ?_))
  have hlj : (th.stk.take j).length = j := by simp; omega
  repeat ((conv => whnf); first | refine Br.t ?_ | refine Br.f ?_ | refine ⟨rfl, ?_⟩)
  conv => whnf
  rw [encTh_get hth]
  refine ⟨⟨by omega, by simp; omega, rfl⟩, ?_⟩
  repeat ((conv => whnf); first | refine Br.t ?_ | refine Br.f ?_ | refine ⟨rfl, ?_⟩)
  conv => whnf
  refine Br.mk (fun g => ?_) (fun g => ?_)
  · have g : j < th.stk.length := by simpa using g
    obtain ⟨x, hx⟩ : ∃ x, x = th.stk[j] := ⟨_, rfl⟩
    have ex : (th.stk.map encFr).getD (j : Int).toNat [] = encFr x := by rw [hx]; exact getD_enc g
    have et : th.stk.take (j + 1) = th.stk.take j ++ [x] := by rw [hx]; simp
    repeat ((conv => whnf); first | refine Br.t ?_ | refine Br.f ?_ | refine ⟨rfl, ?_⟩)
    conv => whnf
    rw [encTh_get hth]
    refine ⟨⟨by omega, by simp; omega, rfl⟩, ?_⟩
    repeat ((conv => whnf); first | refine Br.t ?_ | refine Br.f ?_ | refine ⟨rfl, ?_⟩)
    conv => whnf
    rw [ex]
    refine ⟨⟨by omega, by simp; omega, rfl⟩, ?_⟩
    repeat ((conv => whnf); first | refine Br.t ?_ | refine Br.f ?_ | refine ⟨rfl, ?_⟩)
    conv => whnf
    refine ⟨⟨by intro cs hcs; simp at hcs; subst hcs; rfl, by simp [lift], by rw [hlj]; show (j + 1) * 16 ≤ _; omega, len_mx (by rw [hlj]; simp [lift]; omega)⟩, ?_⟩
    repeat ((conv => whnf); first | refine Br.t ?_ | refine Br.f ?_ | refine ⟨rfl, ?_⟩)
    conv => whnf
    refine ⟨j + 1, by omega, by omega, Le.back (fun id => if id = 5 then 1 else 0) (by intro id hid; simp at hid) (by simp [plB]) rfl (plF_cl c t _ _ (by simp [plB])) ?_ ?_⟩
    · rw [et]
      simp [leS, mkS, plS, V.up, lift]
      exact i64_id (by omega) (by omega)
    · rw [et]
      simp only [upSt, Ob.up, map_up_lift, List.map_append, lift_app, plB, frR, List.cons_append, List.nil_append]
      rfl
  · have g : j = th.stk.length := by simp at g; omega
    subst g
    repeat ((conv => whnf); first | refine Br.t ?_ | refine Br.f ?_ | refine ⟨rfl, ?_⟩)
    conv => whnf
    refine ⟨_, (Le.data 5 1 2 (th.stk.map encFr) (s := ⟨plS t [(5, .i (.sl (th.stk.map encFr)))], plB c t ++ [.dead]⟩) ?_ ?_ ?_).trans (Le.short (Nat.zero_le _) rfl (plB_cl c t)), rfl, rfl⟩
    · rw [List.take_length]; rfl
    · simp [leS, mkS, plS, V.dat]
      exact List.take_of_length_le (by simp)
    · simp only [plB, List.cons_append, List.nil_append, List.map_cons, List.map_nil, Ob.dat, dat_lift']
      rfl
def plE (c : Cfg) : List Ob := [cfgB c, plZ, .row 0 18 false [.i (.sl (c.ths.map stkI)) :: .i (.sl (c.ths.map slI)) :: (ow16 c.own).map .i]]
theorem plE_cl (c : Cfg) : ∀ o ∈ plE c, o.cl 3 := by
  intro o ho
  simp only [plE, List.mem_cons, List.not_mem_nil, or_false] at ho
  rcases ho with rfl | rfl | rfl
  · exact cfgB_cl c _
  · intro cs hcs; simp only [List.mem_singleton] at hcs; subst hcs; rfl
  · intro cs hcs; simp only [List.mem_singleton] at hcs; subst hcs; rfl
set_option maxHeartbeats 1000000 in
theorem plain_out (p : Pg) (hp : PgOk p) (c : Cfg) (hc : OkC p c) :
    W Try.prog G0 0 (.loop (lp Try.f31 0)) (fun e s' => e = .exit 0 ∧ s' = ⟨mkS 64 [(2, .ptr 1 0 0 0), (3, .ptr 2 0 0 0)], plE c⟩) ⟨plS 0 [], plB c 0⟩ := by
  have hn := hc.n.2
  refine W.weak (loop_ok (α := Nat) (fun t => ⟨plS t [], plB c t⟩)
    (fun t => t ≤ c.ths.length) (fun t => c.ths.length - t) 0 (Nat.zero_le _) (Le.refl _ _) (fun t ht => wpx_ok (own := own0) _ _ _ ?_))
  repeat ((conv => whnf); first | refine Br.t ?_ | refine Br.f ?_ | refine ⟨rfl, ?_⟩)
  conv => whnf
  refine Br.mk (fun g => ?_) (fun g => ?_)
  · have g : t < c.ths.length := by simpa using g
    obtain ⟨th, hth⟩ : ∃ th, c.ths[t]? = some th := ⟨_, List.getElem?_eq_getElem g⟩
    have hh := (hc.th th (List.mem_of_getElem? hth)).h
    have hpn := hp.n.2
    have htk : (c.ths.take t).length = t := by simp; omega
    have et : c.ths.take (t + 1) = c.ths.take t ++ [th] := by
      rw [List.take_succ_eq_append_getElem g]; congr 2
      exact Option.some.inj ((List.getElem?_eq_getElem g).symm.trans hth)
    repeat ((conv => whnf); first | refine Br.t ?_ | refine Br.f ?_ | refine ⟨rfl, ?_⟩)
    conv => whnf
    refine W.le ((Le.nil (n := 0) 5 2 rfl).trans (Le.slots (sl' := plS t [(5, .ref 5 1 0 (th.stk.take 0).length), (6, .i (.int .i64 0))]) (by simp [leS, mkS, plS, plB]))) (W.mono (plain_in c t th hth hn (by omega)) ?_)
    rintro e s' ⟨rfl, rfl⟩
    repeat ((conv => whnf); first | refine Br.t ?_ | refine Br.f ?_ | refine ⟨rfl, ?_⟩)
    conv => whnf
    refine ⟨⟨by intro cs hcs; simp at hcs; subst hcs; rfl, by simp [lift]; omega, by show (t + 1) * 24 ≤ _; omega, len_mx (by simp [lift]; omega)⟩, ?_⟩
    repeat ((conv => whnf); first | refine Br.t ?_ | refine Br.f ?_ | refine ⟨rfl, ?_⟩)
    conv => whnf
    refine draw_ok (own := own0) [9, 11] [] [] rfl (by kernel_rfl) (Nat.zero_le _) ?_
    repeat ((conv => whnf); first | refine Br.t ?_ | refine Br.f ?_ | refine ⟨rfl, ?_⟩)
    conv => whnf
    rw [encTh_get hth]
    refine ⟨⟨by omega, by simp; omega, rfl⟩, ?_⟩
    repeat ((conv => whnf); first | refine Br.t ?_ | refine Br.f ?_ | refine ⟨rfl, ?_⟩)
    conv => whnf
    refine ⟨⟨by intro cs hcs; simp at hcs; subst hcs; rfl, by simp [lift]; omega, by show (t + 1) * 64 ≤ _; omega, len_mx (by simp [lift]; omega)⟩, ?_⟩
    repeat ((conv => whnf); first | refine Br.t ?_ | refine Br.f ?_ | refine ⟨rfl, ?_⟩)
    conv => whnf
    refine ⟨by repeat ((conv => whnf); first | exact trivial | refine ⟨rfl, ?_⟩), trivial, ?_⟩
    conv => whnf
    repeat ((conv => whnf); first | refine Br.t ?_ | refine Br.f ?_ | refine ⟨rfl, ?_⟩)
    conv => whnf
    refine ⟨t + 1, by omega, by omega, Le.back (fun id => if id = 3 ∨ id = 4 then 1 else 0) (by intro id hid; simp at hid) (by simp [plB]) rfl (plB_cl c _) ?_ ?_⟩
    · simp [leS, mkS, plS, V.up]
      exact i64_id (by omega) (by omega)
    · rw [plB, et]
      simp only [upSt, Ob.up, map_up_lift, List.map_append, lift_app]
      rfl
  · have g : t = c.ths.length := by simp at g; omega
    subst g
    have e1 : (c.ths.take c.ths.length) = c.ths := List.take_length
    repeat ((conv => whnf); first | refine Br.t ?_ | refine Br.f ?_ | refine ⟨rfl, ?_⟩)
    conv => whnf
    refine ⟨_, (Le.data 3 1 1 (c.ths.map stkI) (s := ⟨plS c.ths.length [], [cfgB c, plZ, .row 0 18 false [.i (.sl (c.ths.map stkI)) :: .ref 4 1 0 c.ths.length :: (ow16 c.own).map .i], .dead, .row 1 8 false (lift (c.ths.map slI))]⟩) (by rw [e1]; rfl) ?_ ?_).trans
      ((Le.data 4 1 8 (c.ths.map slI) (s := ⟨plS c.ths.length [], plE c ++ [.dead, .dead]⟩) rfl ?_ ?_).trans ((Le.slots (sl' := mkS 64 [(2, .ptr 1 0 0 0), (3, .ptr 2 0 0 0)]) (by simp [leS, mkS, plS])).trans (Le.short (Nat.zero_le _) rfl (plE_cl c)))), rfl, rfl⟩
    · simp [leS, mkS, plS, V.dat]
    · rw [e1]
      simp only [plB, List.map_cons, List.map_nil, Ob.dat, dat_lift']
      rw [show V.i (I.sl (c.ths.map stkI)) = V.i (I.sl ((c.ths.map stkI).take c.ths.length)) by rw [List.take_of_length_le (by simp)]]
      rfl
    · simp [leS, mkS, plS, V.dat]
    · simp only [plE, List.cons_append, List.nil_append, List.map_cons, List.map_nil, Ob.dat, dat_lift']
      rw [show V.i (I.sl (c.ths.map slI)) = V.i (I.sl ((c.ths.map slI).take c.ths.length)) by rw [List.take_of_length_le (by simp)]]
      rfl
set_option maxHeartbeats 1000000 in
theorem plain_ok (p : Pg) (hp : PgOk p) (c : Cfg) (hc : OkC p c) : CallW Try.prog G0 31 [cfgV c] [] (fun r st' => r = rcV c ∧ st' = []) := by
  refine call_of_bodyF 0 (Nat.le_refl _) Try.func31 rfl (fun a w => Try.call31 a w) (wpx_ok (own := own0) _ _ _ ?_)
  repeat ((conv => whnf); first | refine Br.t ?_ | refine Br.f ?_ | refine ⟨rfl, ?_⟩)
  conv => whnf
  refine W.le (((Le.nilCell (n := 0) 2 0 0 1 rfl rfl rfl).trans (Le.nilCell (n := 0) 2 0 1 8 rfl rfl rfl)).trans (Le.slotsE (sl' := plS 0 []) (st' := plB c 0) (by simp [leS, mkS, plS]) ?_)) (W.mono (plain_out p hp c hc) ?_)
  · rfl
  rintro e s' ⟨rfl, rfl⟩
  repeat ((conv => whnf); first | refine Br.t ?_ | refine Br.f ?_ | refine ⟨rfl, ?_⟩)
  conv => whnf
  refine fin (target := []) rfl (Nat.zero_le _) (by simp) rfl rfl
end Go.Proofs.Ytiikndppckjmhaa.Am
