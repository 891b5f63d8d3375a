/- Contracts: a config is the same as itself. -/
import Derived.Test.YtiikndppckjmhaaSmI
namespace Go.Proofs.Ytiikndppckjmhaa.Am
set_option autoImplicit false
set_option linter.unusedVariables false
set_option linter.unusedSimpArgs false
set_option maxRecDepth 10000
set_option pp.maxSteps 3000
set_option pp.proofs false
theorem equal_refl (L : List (Nat × Nat)) (hl : L.length ≤ 1000) : CallW Try.prog G0 87 [.i (.sl (L.map encFr)), .i (.sl (L.map encFr))] [] (fun r st' => r = .i (.bool true) ∧ st' = []) := by
  refine call_of_bodyF 0 (Nat.le_refl _) Try.func87 rfl (fun a w => Try.call87 a w) (wpx_ok (own := own0) _ _ _ ?_)
  repeat ((conv => whnf); first | refine Br.t ?_ | refine Br.f ?_ | refine ⟨rfl, ?_⟩)
  conv => whnf
  refine Br.mk (fun h => by simp at h) (fun _ => ?_)
  repeat ((conv => whnf); first | refine Br.t ?_ | refine Br.f ?_ | refine ⟨rfl, ?_⟩)
  conv => whnf
  refine loop_ok (α := Nat) (fun i => ⟨mkS 26 [(0, .i (.sl (L.map encFr))), (1, .i (.sl (L.map encFr))), (12, .i (.int .i64 L.length)), (13, .i (.int .i64 i))], []⟩)
    (fun i => i ≤ L.length) (fun i => L.length - i) 0 (Nat.zero_le _) (Le.slots (by simp [leS, mkS])) (fun i hi => wpx_ok (own := own0) _ _ _ ?_)
  repeat ((conv => whnf); first | refine Br.t ?_ | refine Br.f ?_ | refine ⟨rfl, ?_⟩)
  conv => whnf
  refine Br.mk (fun g => ?_) (fun g => ?_)
  · have g : i < L.length := by simpa using g
    obtain ⟨x, hx⟩ : ∃ x, x = L[i] := ⟨_, rfl⟩
    have ex : (L.map encFr).getD (i : Int).toNat [] = encFr x := by rw [hx]; exact getD_enc g
    repeat ((conv => whnf); first | refine Br.t ?_ | refine Br.f ?_ | refine ⟨rfl, ?_⟩)
    conv => whnf
    refine draw_ok (own := own0) [] [] [] rfl (by kernel_rfl) (Nat.zero_le _) ?_
    repeat ((conv => whnf); first | refine Br.t ?_ | refine Br.f ?_ | refine ⟨rfl, ?_⟩)
    conv => whnf
    rw [ex]
    refine ⟨⟨by omega, by simp; omega, rfl⟩, ?_⟩
    repeat ((conv => whnf); first | refine Br.t ?_ | refine Br.f ?_ | refine ⟨rfl, ?_⟩)
    conv => whnf
    rw [ex]
    refine ⟨⟨by omega, by simp; omega, rfl⟩, ?_⟩
    repeat ((conv => whnf); first | refine Br.t ?_ | refine Br.f ?_ | refine ⟨rfl, ?_⟩)
    conv => whnf
    refine ⟨by kernel_rfl, ?_⟩
    repeat ((conv => whnf); first | refine Br.t ?_ | refine Br.f ?_ | refine ⟨rfl, ?_⟩)
    conv => whnf
    refine ⟨by repeat ((conv => whnf); first | exact trivial | refine ⟨rfl, ?_⟩), trivial, ?_⟩
    conv => whnf
    refine Br.mk (fun h => by simp at h) (fun _ => ?_)
    repeat ((conv => whnf); first | refine Br.t ?_ | refine Br.f ?_ | refine ⟨rfl, ?_⟩)
    conv => whnf
    refine ⟨i + 1, by omega, by omega, Le.slots ?_⟩
    simp [leS, mkS]
    exact i64_id (by omega) (by omega)
  · repeat ((conv => whnf); first | refine Br.t ?_ | refine Br.f ?_ | refine ⟨rfl, ?_⟩)
    conv => whnf
    refine fin (target := []) rfl (Nat.zero_le _) (by simp) rfl rfl
theorem clos_refl (t : Th) (hl : t.stk.length ≤ 1000) : CallW Try.prog G0 86 [thV t, thV t] [] (fun r st' => r = .i (.bool true) ∧ st' = []) := by
  refine call_of_bodyF 0 (Nat.le_refl _) Try.func86 rfl (fun a w => Try.call86 a w) (wpx_ok (own := own0) _ _ _ ?_)
  repeat ((conv => whnf); first | refine Br.t ?_ | refine Br.f ?_ | refine ⟨rfl, ?_⟩)
  conv => whnf
  refine Br.mk (fun _ => ?_) (fun h => by simp at h)
  repeat ((conv => whnf); first | refine Br.t ?_ | refine Br.f ?_ | refine ⟨rfl, ?_⟩)
  conv => whnf
  refine CallW.mono ((equal_refl t.stk hl).pure _ rfl rfl) ?_
  rintro r st' ⟨rfl, rfl⟩
  repeat ((conv => whnf); first | refine Br.t ?_ | refine Br.f ?_ | refine ⟨rfl, ?_⟩)
  conv => whnf
  refine fin (target := []) rfl (Nat.zero_le _) (by simp) ?_ rfl
  simp
def efS (c : Cfg) (i : Nat) : List V := mkS 32 [(1, .i (.sl (c.ths.map encTh))), (2, .fn (.func 86) [] []), (15, .i (.sl (c.ths.map encTh))), (16, .i (.int .i64 c.ths.length)), (17, .i (.int .i64 i))]
theorem efunc_refl (p : Pg) (hp : PgOk p) (c : Cfg) (hc : OkC p c) : CallW Try.prog G0 85 [.i (.sl (c.ths.map encTh)), .i (.sl (c.ths.map encTh)), .fn (.func 86) [] []] [] (fun r st' => r = .i (.bool true) ∧ st' = []) := by
  refine call_of_bodyF 0 (Nat.le_refl _) Try.func85 rfl (fun a w => Try.call85 a w) (wpx_ok (own := own0) _ _ _ ?_)
  have hn := hc.n.2
  repeat ((conv => whnf); first | refine Br.t ?_ | refine Br.f ?_ | refine ⟨rfl, ?_⟩)
  conv => whnf
  refine Br.mk (fun h => by simp at h) (fun _ => ?_)
  repeat ((conv => whnf); first | refine Br.t ?_ | refine Br.f ?_ | refine ⟨rfl, ?_⟩)
  conv => whnf
  refine loop_ok (α := Nat) (fun i => ⟨efS c i, []⟩)
    (fun i => i ≤ c.ths.length) (fun i => c.ths.length - i) 0 (Nat.zero_le _) (Le.slots (by simp [leS, mkS, efS])) (fun i hi => wpx_ok (own := own0) _ _ _ ?_)
  repeat ((conv => whnf); first | refine Br.t ?_ | refine Br.f ?_ | refine ⟨rfl, ?_⟩)
  conv => whnf
  refine Br.mk (fun g => ?_) (fun g => ?_)
  · have g : i < c.ths.length := by simpa using g
    obtain ⟨t, ht⟩ : ∃ t, c.ths[i]? = some t := ⟨_, List.getElem?_eq_getElem g⟩
    have hh := (hc.th t (List.mem_of_getElem? ht)).h
    have hpn := hp.n.2
    repeat ((conv => whnf); first | refine Br.t ?_ | refine Br.f ?_ | refine ⟨rfl, ?_⟩)
    conv => whnf
    rw [encTh_get ht]
    refine ⟨⟨by omega, by simp; omega, rfl⟩, ?_⟩
    repeat ((conv => whnf); first | refine Br.t ?_ | refine Br.f ?_ | refine ⟨rfl, ?_⟩)
    conv => whnf
    rw [encTh_get ht]
    refine ⟨⟨by omega, by simp; omega, rfl⟩, ?_⟩
    repeat ((conv => whnf); first | refine Br.t ?_ | refine Br.f ?_ | refine ⟨rfl, ?_⟩)
    conv => whnf
    refine CallW.mono ((clos_refl t (by omega)).pure _ rfl rfl) ?_
    rintro r st' ⟨rfl, rfl⟩
    repeat ((conv => whnf); first | refine Br.t ?_ | refine Br.f ?_ | refine ⟨rfl, ?_⟩)
    conv => whnf
    refine ⟨i + 1, by omega, by omega, Le.back (fun _ => 0) (by intro id hid; rfl) (by simp) rfl (by simp) ?_ rfl⟩
    simp [leS, mkS, efS, V.up]
    exact ⟨rfl, i64_id (by omega) (by omega)⟩
  · repeat ((conv => whnf); first | refine Br.t ?_ | refine Br.f ?_ | refine ⟨rfl, ?_⟩)
    conv => whnf
    refine fin (target := []) rfl (Nat.zero_le _) (by simp) rfl rfl
theorem same_refl (p : Pg) (hp : PgOk p) (c : Cfg) (hc : OkC p c) : CallW Try.prog G0 45 [cfgV c, cfgV c] [] (fun r st' => r = .i (.bool true) ∧ st' = []) := by
  refine call_of_bodyF 0 (Nat.le_refl _) Try.func45 rfl (fun a w => Try.call45 a w) (wpx_ok (own := own0) _ _ _ ?_)
  repeat ((conv => whnf); first | refine Br.t ?_ | refine Br.f ?_ | refine ⟨rfl, ?_⟩)
  conv => whnf
  refine Br.mk (fun _ => ?_) (fun h => by simp at h)
  repeat ((conv => whnf); first | refine Br.t ?_ | refine Br.f ?_ | refine ⟨rfl, ?_⟩)
  conv => whnf
  refine CallW.mono ((efunc_refl p hp c hc).pure _ rfl rfl) ?_
  rintro r st' ⟨rfl, rfl⟩
  repeat ((conv => whnf); first | refine Br.t ?_ | refine Br.f ?_ | refine ⟨rfl, ?_⟩)
  conv => whnf
  refine fin (target := []) rfl (Nat.zero_le _) (by simp) ?_ rfl
  simp
end Go.Proofs.Ytiikndppckjmhaa.Am
