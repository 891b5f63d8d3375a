/- Contract: the program's check of justifications; the law of it. -/
import Derived.Test.YtpbbkfekibmaiaaDoorGqE
namespace Go.Proofs.YtpbbkfekibmaiaaDoor.Am
set_option autoImplicit false
set_option linter.unusedVariables false
set_option linter.unusedSimpArgs false
set_option maxRecDepth 10000
set_option pp.maxSteps 3000
set_option pp.proofs false
def gpc (p : Pg) (l : List Sec) (js : List Jst) : Flt × Int := if (chk p).2.2 = 0 then (gchk p l js, 0) else ((0, 0, 0), (chk p).2.2)
def gpV (r : Flt × Int) : V := .tup [fltV r.1, .i (.int .i64 r.2)]
set_option maxHeartbeats 1000000 in
theorem guardchk (p : Pg) (hp : okPg p) (l : List Sec) (js : List Jst) (hll : l.length ≤ 40) (hjl : js.length ≤ 1000) (hso : ∀ s ∈ l, okSec s) :
    CallW Tryd.prog G0 23 [pgV p, .i (.sl (l.map encSec)), .i (.sl (js.map encJ))] [] (fun r st' => r = gpV (gpc p l js) ∧ st' = []) := by
  refine call_of_bodyF 0 (Nat.le_refl _) Tryd.func23 rfl (fun a w => Tryd.call23 a w) (wpx_ok (own := own0) _ _ _ ?_)
  have ck := check31 p hp
  unfold gpc
  obtain ⟨c1, c2, c4, c3⟩ : ∃ a b c, chk p = (a, b, c) := ⟨_, _, _, rfl⟩
  rw [c3] at ck ⊢
  repeat ((conv => whnf); first | refine Br.t ?_ | refine Br.f ?_ | refine ⟨rfl, ?_⟩)
  conv => whnf
  refine CallW.mono (ck.pure _ rfl rfl) ?_
  rintro r st' ⟨rfl, rfl⟩
  repeat ((conv => whnf); first | refine Br.t ?_ | refine Br.f ?_ | refine ⟨rfl, ?_⟩)
  conv => whnf
  refine Br.mk (fun z => ?_) (fun z => ?_)
  · have z : c4 ≠ 0 := by simpa using z
    rw [if_neg z]
    repeat ((conv => whnf); first | refine Br.t ?_ | refine Br.f ?_ | refine ⟨rfl, ?_⟩)
    conv => whnf
    refine fin (target := []) rfl (Nat.zero_le _) (by simp) rfl rfl
  · have z : c4 = 0 := by simpa using z
    subst z
    have ok := chk_zero (p := p) (by rw [c3])
    rw [if_pos rfl]
    have cs := shapedP p l hll
    obtain ⟨q, hq⟩ : ∃ q, q = shapedB p l := ⟨_, rfl⟩
    rw [← hq] at cs
    unfold gchk
    rw [← hq]
    repeat ((conv => whnf); first | refine Br.t ?_ | refine Br.f ?_ | refine ⟨rfl, ?_⟩)
    conv => whnf
    refine CallW.mono (cs.pure _ rfl rfl) ?_
    rintro r st' ⟨rfl, rfl⟩
    cases q with
    | false =>
      rw [if_pos (.inl rfl)]
      repeat ((conv => whnf); first | refine Br.t ?_ | refine Br.f ?_ | refine ⟨rfl, ?_⟩)
      conv => whnf
      refine fin (target := []) rfl (Nat.zero_le _) (by simp) rfl rfl
    | true =>
      repeat ((conv => whnf); first | refine Br.t ?_ | refine Br.f ?_ | refine ⟨rfl, ?_⟩)
      conv => whnf
      refine Br.mk (fun k => ?_) (fun k => ?_)
      · have k : (js.length : Int) ≠ p.g := by simpa using k
        rw [if_pos (.inr k)]
        repeat ((conv => whnf); first | refine Br.t ?_ | refine Br.f ?_ | refine ⟨rfl, ?_⟩)
        conv => whnf
        refine fin (target := []) rfl (Nat.zero_le _) (by simp) rfl rfl
      · have k : (js.length : Int) = p.g := by simpa using k
        rw [if_neg (by simp [k])]
        have hq := hq.symm
        unfold shapedB at hq
        simp only [Bool.and_eq_true, decide_eq_true_eq] at hq
        obtain ⟨q1, q2⟩ := hq
        repeat ((conv => whnf); first | refine Br.t ?_ | refine Br.f ?_ | refine ⟨rfl, ?_⟩)
        conv => whnf
        refine W.le (Le.slots (sl' := gpS l js (gpR js 0)) (by simp [leS, mkS, gpS, gpR])) (gp_right p l js hjl _ (fun g hr => ?_) (fun hr => ?_))
        · rw [hr]
          repeat ((conv => whnf); first | refine Br.t ?_ | refine Br.f ?_ | refine ⟨rfl, ?_⟩)
          conv => whnf
          refine fin (target := []) rfl (Nat.zero_le _) (by simp) rfl rfl
        · rw [hr]
          have hj : JsOk p l js := ⟨k, by have := ok.g; omega, fun j hjm => right_lock (rgt_none hr j hjm) ok.l.2⟩
          have hS : SecsOk p l := ⟨ok.n.2, q1, hso, fun f a b => shG_get q2 f _ _ (List.getElem?_eq_getElem a) (List.getElem?_eq_getElem b), fun f hf => by have := ok.f f hf; omega, fun L hL => (ok.f L hL).2.2⟩
          repeat ((conv => whnf); first | refine Br.t ?_ | refine Br.f ?_ | refine ⟨rfl, ?_⟩)
          conv => whnf
          refine W.le (Le.slots (sl' := gpS l js (gpF p 0)) (by simp [leS, mkS, gpS, gpF])) (gp_fn p l js hj hS _ (fun f i hr => ?_) (fun hr => ?_))
          · rw [hr]
            repeat ((conv => whnf); first | refine Br.t ?_ | refine Br.f ?_ | refine ⟨rfl, ?_⟩)
            conv => whnf
            refine fin (target := []) rfl (Nat.zero_le _) (by simp) rfl rfl
          · rw [hr]
            repeat ((conv => whnf); first | refine Br.t ?_ | refine Br.f ?_ | refine ⟨rfl, ?_⟩)
            conv => whnf
            refine fin (target := []) rfl (Nat.zero_le _) (by simp) rfl rfl
set_option maxHeartbeats 2000000 in
theorem guardchecks (p : Pg) (hp : okPg p) (l : List Sec) (hl : l.length ≤ 9223372036854775807) (hs : ∀ s ∈ l, okSec s) (js : List Jst) (hjl : js.length ≤ 9223372036854775807) :
    CallW Tryd.prog G1 7 [pgV p, .i (.sl (l.map encSec)), .i (.sl (js.map encJ))] [] (fun r st' => r = .i (.bool true) ∧ st' = []) := by
  refine call_of_bodyF 0 (Nat.le_refl _) Tryd.func7 rfl (fun a w => Tryd.call7 a w) (wpx_ok (own := own0) _ _ _ ?_)
  repeat ((conv => whnf); first | refine Br.t ?_ | refine Br.f ?_ | refine ⟨rfl, ?_⟩)
  conv => whnf
  refine CallW.mono (awake9.pure _ rfl rfl) ?_
  rintro r st' ⟨rfl, rfl⟩
  repeat ((conv => whnf); first | refine Br.t ?_ | refine Br.f ?_ | refine ⟨rfl, ?_⟩)
  conv => whnf
  refine CallW.mono (((small16 p hp).glob).pure _ rfl rfl) ?_
  rintro r st' ⟨rfl, rfl⟩
  repeat ((conv => whnf); first | refine Br.t ?_ | refine Br.f ?_ | refine ⟨rfl, ?_⟩)
  conv => whnf
  refine Br.mk (fun z => ?_) (fun z => ?_)
  · repeat ((conv => whnf); first | refine Br.t ?_ | refine Br.f ?_ | refine ⟨rfl, ?_⟩)
    conv => whnf
    refine CallW.mono (awake9.pure _ rfl rfl) ?_
    rintro r st' ⟨rfl, rfl⟩
    repeat ((conv => whnf); first | refine Br.t ?_ | refine Br.f ?_ | refine ⟨rfl, ?_⟩)
    conv => whnf
    refine fin (target := []) rfl (Nat.zero_le _) (by simp) rfl rfl
  · have hsm : smallB p = true := by simpa using z
    unfold smallB at hsm
    simp only [Bool.and_eq_true, decide_eq_true_eq, List.all_eq_true] at hsm
    obtain ⟨b1, b2⟩ := hsm
    repeat ((conv => whnf); first | refine Br.t ?_ | refine Br.f ?_ | refine ⟨rfl, ?_⟩)
    conv => whnf
    refine CallW.mono (((few11 l hl hs).glob).pure _ rfl rfl) ?_
    rintro r st' ⟨rfl, rfl⟩
    repeat ((conv => whnf); first | refine Br.t ?_ | refine Br.f ?_ | refine ⟨rfl, ?_⟩)
    conv => whnf
    refine Br.mk (fun z2 => ?_) (fun z2 => ?_)
    · repeat ((conv => whnf); first | refine Br.t ?_ | refine Br.f ?_ | refine ⟨rfl, ?_⟩)
      conv => whnf
      refine CallW.mono (awake9.pure _ rfl rfl) ?_
      rintro r st' ⟨rfl, rfl⟩
      repeat ((conv => whnf); first | refine Br.t ?_ | refine Br.f ?_ | refine ⟨rfl, ?_⟩)
      conv => whnf
      refine fin (target := []) rfl (Nat.zero_le _) (by simp) rfl rfl
    · have hfw : fewB l = true := by simpa using z2
      unfold fewB at hfw
      simp only [Bool.and_eq_true, decide_eq_true_eq, List.all_eq_true] at hfw
      obtain ⟨b3, b4⟩ := hfw
      repeat ((conv => whnf); first | refine Br.t ?_ | refine Br.f ?_ | refine ⟨rfl, ?_⟩)
      conv => whnf
      refine Br.mk (fun z4 => ?_) (fun z4 => ?_)
      · repeat ((conv => whnf); first | refine Br.t ?_ | refine Br.f ?_ | refine ⟨rfl, ?_⟩)
        conv => whnf
        refine CallW.mono (awake9.pure _ rfl rfl) ?_
        rintro r st' ⟨rfl, rfl⟩
        repeat ((conv => whnf); first | refine Br.t ?_ | refine Br.f ?_ | refine ⟨rfl, ?_⟩)
        conv => whnf
        refine fin (target := []) rfl (Nat.zero_le _) (by simp) rfl rfl
      · have z4 : js.length ≤ 100 := by simp at z4; omega
        have cP := guardchk p hp l js b3 (by omega) hs
        have cC := refcheck p hp
        unfold gpc gpV at cP
        obtain ⟨c1, c2, c4, c3⟩ : ∃ a b c, chk p = (a, b, c) := ⟨_, _, _, rfl⟩
        rw [c3] at cP cC
        repeat ((conv => whnf); first | refine Br.t ?_ | refine Br.f ?_ | refine ⟨rfl, ?_⟩)
        conv => whnf
        by_cases z3 : c4 = 0
        · subst z3
          have ok := chk_zero (p := p) (by rw [c3])
          rw [if_pos rfl] at cP
          have cR := refgchk p l js ok.n.2 b3 (by omega) ok.g.2 ok.l.2 hs b2 (fun L hL => (ok.f L hL).2.2)
          obtain ⟨f1, f2, f3, hf⟩ : ∃ a b c, gchk p l js = (a, b, c) := ⟨_, _, _, rfl⟩
          rw [hf] at cP cR
          refine CallW.mono (cP.glob.pure _ rfl rfl) ?_
          rintro r st' ⟨rfl, rfl⟩
          repeat ((conv => whnf); first | refine Br.t ?_ | refine Br.f ?_ | refine ⟨rfl, ?_⟩)
          conv => whnf
          refine CallW.mono (cC.glob.pure _ rfl rfl) ?_
          rintro r st' ⟨rfl, rfl⟩
          repeat ((conv => whnf); first | refine Br.t ?_ | refine Br.f ?_ | refine ⟨rfl, ?_⟩)
          conv => whnf
          refine draw_ok (own := own0) [] [] [(fltV (f1, f2, f3), [pgB p, fltB (f1, f2, f3)])] rfl (by kernel_rfl) (Nat.zero_le _) ?_
          repeat ((conv => whnf); first | refine Br.t ?_ | refine Br.f ?_ | refine ⟨rfl, ?_⟩)
          conv => whnf
          refine ⟨cR.glob.pure _ rfl rfl, ?_⟩
          repeat ((conv => whnf); first | refine Br.t ?_ | refine Br.f ?_ | refine ⟨rfl, ?_⟩)
          conv => whnf
          refine ⟨by kernel_rfl, ?_⟩
          repeat ((conv => whnf); first | refine Br.t ?_ | refine Br.f ?_ | refine ⟨rfl, ?_⟩)
          conv => whnf
          refine ⟨by repeat ((conv => whnf); first | exact trivial | refine ⟨rfl, ?_⟩), trivial, ?_⟩
          conv => whnf
          repeat ((conv => whnf); first | refine Br.t ?_ | refine Br.f ?_ | refine ⟨rfl, ?_⟩)
          conv => whnf
          refine fin (target := []) rfl (Nat.zero_le _) (by simp) ?_ rfl
          simp
        · rw [if_neg z3] at cP
          refine CallW.mono (cP.glob.pure _ rfl rfl) ?_
          rintro r st' ⟨rfl, rfl⟩
          repeat ((conv => whnf); first | refine Br.t ?_ | refine Br.f ?_ | refine ⟨rfl, ?_⟩)
          conv => whnf
          refine CallW.mono (cC.glob.pure _ rfl rfl) ?_
          rintro r st' ⟨rfl, rfl⟩
          repeat ((conv => whnf); first | refine Br.t ?_ | refine Br.f ?_ | refine ⟨rfl, ?_⟩)
          conv => whnf
          refine Br.mk (fun _ => ?_) (fun h => by simp at h; exact absurd h z3)
          repeat ((conv => whnf); first | refine Br.t ?_ | refine Br.f ?_ | refine ⟨rfl, ?_⟩)
          conv => whnf
          refine Br.mk (fun _ => ?_) (fun h => by simp at h)
          repeat ((conv => whnf); first | refine Br.t ?_ | refine Br.f ?_ | refine ⟨rfl, ?_⟩)
          conv => whnf
          refine ⟨by kernel_rfl, ?_⟩
          repeat ((conv => whnf); first | refine Br.t ?_ | refine Br.f ?_ | refine ⟨rfl, ?_⟩)
          conv => whnf
          refine fin (target := []) rfl (Nat.zero_le _) (by simp) rfl rfl
end Go.Proofs.YtpbbkfekibmaiaaDoor.Am
