/- Contract: the document's sameness of a config with itself. -/
import Derived.Test.YtiikndppckjmhaaSnC
namespace Go.Proofs.Ytiikndppckjmhaa.Am
set_option autoImplicit false
set_option linter.unusedVariables false
set_option linter.unusedSimpArgs false
set_option maxRecDepth 10000
set_option pp.maxSteps 3000
set_option pp.proofs false
def rcB (c : Cfg) : Ob := .row 0 18 false [.i (.sl (c.ths.map stkI)) :: .i (.sl (c.ths.map slI)) :: (ow16 c.own).map .i]
theorem stkI_get {c : Cfg} {t : Nat} {th : Th} (h : c.ths[t]? = some th) : (c.ths.map stkI).getD ((t : Nat) : Int).toNat [] = stkI th := by
  rw [Int.toNat_natCast]; simp [List.getD_eq_getElem?_getD, h]
theorem slI_get {c : Cfg} {t : Nat} {th : Th} (h : c.ths[t]? = some th) : (c.ths.map slI).getD ((t : Nat) : Int).toNat [] = sl8 th.sl := by
  rw [Int.toNat_natCast]; simp [List.getD_eq_getElem?_getD, h, slI]
def rsS (t : Nat) (x : List (Nat × V)) : List V := mkS 81 ([(2, .ptr 0 0 0 0), (3, .ptr 1 0 0 0), (5, .i (.int .i64 t))] ++ x)
set_option maxHeartbeats 1000000 in
theorem rsame_in (c : Cfg) (t : Nat) (th : Th) (hth : c.ths[t]? = some th) (hn : c.ths.length ≤ 8) (hh : th.stk.length ≤ 16) :
    W Try.prog G0 0 (.loop (lp Try.f30 1)) (fun e s' => e = .exit 2 ∧ s' = ⟨rsS t [], [rcB c, rcB c]⟩) ⟨rsS t [(6, .i (.int .i64 0))], [rcB c, rcB c]⟩ := by
  have htl := lt_some hth
  refine W.weak (loop_ok (α := Nat) (fun j => ⟨rsS t [(6, .i (.int .i64 j))], [rcB c, rcB c]⟩)
    (fun j => j ≤ th.stk.length) (fun j => th.stk.length - j) 0 (Nat.zero_le _) (Le.refl _ _) (fun j hj => wpx_ok (own := own0) _ _ _ ?_))
  repeat ((conv => whnf); first | refine Br.t ?_ | refine Br.f ?_ | refine ⟨rfl, ?_⟩)
  conv => whnf
  rw [stkI_get hth]
  refine ⟨⟨by omega, by simp; omega, rfl⟩, ?_⟩
  repeat ((conv => whnf); first | refine Br.t ?_ | refine Br.f ?_ | refine ⟨rfl, ?_⟩)
  conv => whnf
  refine Br.mk (fun g => ?_) (fun g => ?_)
  · have g : j < th.stk.length := by simpa using g
    obtain ⟨x, hx⟩ : ∃ x, x = th.stk[j] := ⟨_, rfl⟩
    have ex : (th.stk.map encFr).getD (j : Int).toNat [] = encFr x := by rw [hx]; exact getD_enc g
    repeat ((conv => whnf); first | refine Br.t ?_ | refine Br.f ?_ | refine ⟨rfl, ?_⟩)
    conv => whnf
    refine draw_ok (own := own0) [] [] [] rfl (by kernel_rfl) (Nat.zero_le _) ?_
    repeat ((conv => whnf); first | refine Br.t ?_ | refine Br.f ?_ | refine ⟨rfl, ?_⟩)
    conv => whnf
    rw [stkI_get hth]
    refine ⟨⟨by omega, by simp; omega, rfl⟩, ?_⟩
    repeat ((conv => whnf); first | refine Br.t ?_ | refine Br.f ?_ | refine ⟨rfl, ?_⟩)
    conv => whnf
    rw [ex]
    refine ⟨⟨by omega, by simp; omega, rfl⟩, ?_⟩
    repeat ((conv => whnf); first | refine Br.t ?_ | refine Br.f ?_ | refine ⟨rfl, ?_⟩)
    conv => whnf
    rw [stkI_get hth]
    refine ⟨⟨by omega, by simp; omega, rfl⟩, ?_⟩
    repeat ((conv => whnf); first | refine Br.t ?_ | refine Br.f ?_ | refine ⟨rfl, ?_⟩)
    conv => whnf
    rw [ex]
    refine ⟨⟨by omega, by simp; omega, rfl⟩, ?_⟩
    repeat ((conv => whnf); first | refine Br.t ?_ | refine Br.f ?_ | refine ⟨rfl, ?_⟩)
    conv => whnf
    refine ⟨by kernel_rfl, ?_⟩
    repeat ((conv => whnf); first | refine Br.t ?_ | refine Br.f ?_ | refine ⟨rfl, ?_⟩)
    conv => whnf
    refine ⟨by repeat ((conv => whnf); first | exact trivial | refine ⟨rfl, ?_⟩), trivial, ?_⟩
    conv => whnf
    refine Br.mk (fun h => by simp at h) (fun _ => ?_)
    repeat ((conv => whnf); first | refine Br.t ?_ | refine Br.f ?_ | refine ⟨rfl, ?_⟩)
    conv => whnf
    refine ⟨j + 1, by omega, by omega, Le.slots ?_⟩
    simp [leS, mkS, rsS]
    exact i64_id (by omega) (by omega)
  · repeat ((conv => whnf); first | refine Br.t ?_ | refine Br.f ?_ | refine ⟨rfl, ?_⟩)
    conv => whnf
    exact ⟨_, Le.slots (by simp [leS, mkS, rsS]), rfl, rfl⟩
set_option maxHeartbeats 1000000 in
theorem rsame_refl (p : Pg) (hp : PgOk p) (c : Cfg) (hc : OkC p c) : CallW Try.prog G0 30 [rcV c, rcV c] [] (fun r st' => r = .i (.bool true) ∧ st' = []) := by
  refine call_of_bodyF 0 (Nat.le_refl _) Try.func30 rfl (fun a w => Try.call30 a w) (wpx_ok (own := own0) _ _ _ ?_)
  have hn := hc.n.2
  repeat ((conv => whnf); first | refine Br.t ?_ | refine Br.f ?_ | refine ⟨rfl, ?_⟩)
  conv => whnf
  refine Br.mk (fun h => by simp at h) (fun _ => ?_)
  repeat ((conv => whnf); first | refine Br.t ?_ | refine Br.f ?_ | refine ⟨rfl, ?_⟩)
  conv => whnf
  refine Br.mk (fun h => by simp at h) (fun _ => ?_)
  repeat ((conv => whnf); first | refine Br.t ?_ | refine Br.f ?_ | refine ⟨rfl, ?_⟩)
  conv => whnf
  refine loop_ok (α := Nat) (fun t => ⟨rsS t [], [rcB c, rcB c]⟩)
    (fun t => t ≤ c.ths.length) (fun t => c.ths.length - t) 0 (Nat.zero_le _) (Le.slots (by simp [leS, mkS, rsS])) (fun t ht => wpx_ok (own := own0) _ _ _ ?_)
  repeat ((conv => whnf); first | refine Br.t ?_ | refine Br.f ?_ | refine ⟨rfl, ?_⟩)
  conv => whnf
  refine Br.mk (fun g => ?_) (fun g => ?_)
  · have g : t < c.ths.length := by simpa using g
    obtain ⟨th, hth⟩ : ∃ th, c.ths[t]? = some th := ⟨_, List.getElem?_eq_getElem g⟩
    have hh := (hc.th th (List.mem_of_getElem? hth)).h
    have hpn := hp.n.2
    repeat ((conv => whnf); first | refine Br.t ?_ | refine Br.f ?_ | refine ⟨rfl, ?_⟩)
    conv => whnf
    refine draw_ok (own := own0) [] [] [] rfl (by kernel_rfl) (Nat.zero_le _) ?_
    repeat ((conv => whnf); first | refine Br.t ?_ | refine Br.f ?_ | refine ⟨rfl, ?_⟩)
    conv => whnf
    rw [slI_get hth]
    refine ⟨⟨by omega, by simp; omega, rfl⟩, ?_⟩
    repeat ((conv => whnf); first | refine Br.t ?_ | refine Br.f ?_ | refine ⟨rfl, ?_⟩)
    conv => whnf
    rw [slI_get hth]
    refine ⟨⟨by omega, by simp; omega, rfl⟩, ?_⟩
    repeat ((conv => whnf); first | refine Br.t ?_ | refine Br.f ?_ | refine ⟨rfl, ?_⟩)
    conv => whnf
    refine Br.mk (fun h => by simp at h) (fun _ => ?_)
    repeat ((conv => whnf); first | refine Br.t ?_ | refine Br.f ?_ | refine ⟨rfl, ?_⟩)
    conv => whnf
    rw [stkI_get hth]
    refine ⟨⟨by omega, by simp; omega, rfl⟩, ?_⟩
    repeat ((conv => whnf); first | refine Br.t ?_ | refine Br.f ?_ | refine ⟨rfl, ?_⟩)
    conv => whnf
    rw [stkI_get hth]
    refine ⟨⟨by omega, by simp; omega, rfl⟩, ?_⟩
    repeat ((conv => whnf); first | refine Br.t ?_ | refine Br.f ?_ | refine ⟨rfl, ?_⟩)
    conv => whnf
    refine ⟨by repeat ((conv => whnf); first | exact trivial | refine ⟨rfl, ?_⟩), trivial, ?_⟩
    conv => whnf
    refine Br.mk (fun h => by simp at h) (fun _ => ?_)
    repeat ((conv => whnf); first | refine Br.t ?_ | refine Br.f ?_ | refine ⟨rfl, ?_⟩)
    conv => whnf
    refine W.le (s' := ⟨rsS t [(6, .i (.int .i64 0))], [rcB c, rcB c]⟩) (Le.slots (by simp [leS, mkS, rsS])) (W.mono (rsame_in c t th hth hn (by omega)) ?_)
    rintro e s' ⟨rfl, rfl⟩
    repeat ((conv => whnf); first | refine Br.t ?_ | refine Br.f ?_ | refine ⟨rfl, ?_⟩)
    conv => whnf
    refine ⟨t + 1, by omega, by omega, Le.slots ?_⟩
    simp [leS, mkS, rsS]
    exact i64_id (by omega) (by omega)
  · repeat ((conv => whnf); first | refine Br.t ?_ | refine Br.f ?_ | refine ⟨rfl, ?_⟩)
    conv => whnf
    refine fin (target := []) rfl (Nat.zero_le _) (by simp) rfl rfl
end Go.Proofs.Ytiikndppckjmhaa.Am
