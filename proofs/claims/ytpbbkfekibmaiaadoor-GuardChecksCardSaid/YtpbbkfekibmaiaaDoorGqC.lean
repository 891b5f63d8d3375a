/- Contract: the document's check of justifications. -/
import Derived.Test.YtpbbkfekibmaiaaDoorGqB
import Derived.Test.YtpbbkfekibmaiaaDoorGoC
namespace Go.Proofs.YtpbbkfekibmaiaaDoor.Am
set_option autoImplicit false
set_option linter.unusedVariables false
set_option linter.unusedSimpArgs false
set_option maxRecDepth 10000
set_option pp.maxSteps 3000
set_option pp.proofs false
structure SecsOk (p : Pg) (l : List Sec) : Prop where
  fl : p.fs.length ≤ 16
  n : l.length = p.fs.length
  ok : ∀ s ∈ l, okSec s
  sh : ∀ f (h1 : f < l.length) (h2 : f < p.fs.length), (shd l[f]).length = (p.fs[f]).length ∧ (slv l[f]).length = (p.fs[f]).length
  w : ∀ f ∈ p.fs, f.length ≤ 100
  may : ∀ L ∈ p.fs, ∀ y ∈ L, mayF p y L.length = true
set_option maxHeartbeats 1000000 in
theorem gc_fn (p : Pg) (l : List Sec) (js : List Jst) (hj : JsOk p l js) (hs : SecsOk p l) (Q : Exit → S → Prop)
    (hbad : ∀ f i, accJ js 0 p.fs l = some (f, i) → Q .ret ⟨gcS l js [], [pgB p, fltB ((f : Int), (i : Int), 8)]⟩) (hok : accJ js 0 p.fs l = none → Q (.exit 2) ⟨gcS l js [], [pgB p, fltB (0, 0, 0)]⟩) :
    W Tryd.prog G0 0 (.loop (lp Tryd.f24 1)) Q ⟨gcS l js [(8, .i (.int .i64 0))], [pgB p, fltB (0, 0, 0)]⟩ := by
  refine W.weak (loop_ok (α := Nat) (fun f => ⟨gcS l js [(8, .i (.int .i64 f))], [pgB p, fltB (0, 0, 0)]⟩)
    (fun f => f ≤ p.fs.length ∧ accJ js f (p.fs.drop f) (l.drop f) = accJ js 0 p.fs l) (fun f => p.fs.length - f) 0 ⟨Nat.zero_le _, rfl⟩ (Le.refl _ _) (fun f hf => wpx_ok (own := own0) _ _ _ ?_))
  obtain ⟨h1, h2⟩ := hf
  have hfl := hs.fl
  have hn := hs.n
  repeat ((conv => whnf); first | refine Br.t ?_ | refine Br.f ?_ | refine ⟨rfl, ?_⟩)
  conv => whnf
  refine Br.mk (fun g => ?_) (fun g => ?_)
  · have g : f < p.fs.length := by simpa using g
    obtain ⟨q1, q2⟩ := hs.sh f (by omega) g
    obtain ⟨L, hL⟩ : ∃ L, L = p.fs[f] := ⟨_, rfl⟩
    obtain ⟨s, hse⟩ : ∃ s, s = l[f]'(by omega) := ⟨_, rfl⟩
    have hLm : L ∈ p.fs := hL ▸ List.getElem_mem g
    have hsm : s ∈ l := hse ▸ List.getElem_mem (by omega)
    have eL : (p.fs.map encF).getD (f : Int).toNat [] = encF L := by rw [hL]; exact getD_enc g
    have es : (l.map encSec).getD (f : Int).toNat [] = encSec s := by rw [hse]; exact getD_enc (by omega)
    have edr : p.fs.drop f = L :: p.fs.drop (f + 1) := by rw [hL]; exact List.drop_eq_getElem_cons g
    have eds : l.drop f = s :: l.drop (f + 1) := by rw [hse]; exact List.drop_eq_getElem_cons (by omega)
    rw [← hL, ← hse] at q1 q2
    rw [edr, eds, accJ] at h2
    repeat ((conv => whnf); first | refine Br.t ?_ | refine Br.f ?_ | refine ⟨rfl, ?_⟩)
    conv => whnf
    refine W.le (Le.slots (sl' := gcS l js [(8, .i (.int .i64 f)), (9, .i (.int .i64 0))]) (by simp [leS, mkS, gcS])) (gc_node p l js hj f L s g (by omega) (by omega) (by omega) eL es (hs.w L hLm) (hs.ok s hsm) q1 q2 (hs.may L hLm) _ (fun i hb => ?_) (fun hb => ?_))
    · rw [hb] at h2
      simp only at h2
      repeat ((conv => whnf); first | refine Br.t ?_ | refine Br.f ?_ | refine ⟨rfl, ?_⟩)
      conv => whnf
      exact ⟨_, Le.slots (by simp [leS, mkS, gcS]), hbad _ _ h2.symm⟩
    · rw [hb] at h2
      simp only at h2
      repeat ((conv => whnf); first | refine Br.t ?_ | refine Br.f ?_ | refine ⟨rfl, ?_⟩)
      conv => whnf
      refine ⟨f + 1, ⟨by omega, h2⟩, by omega, Le.slots ?_⟩
      simp [leS, mkS, gcS]
      exact i64_id (by omega) (by omega)
  · have g : f = p.fs.length := by simp at g; omega
    subst g
    rw [List.drop_length, accJ] at h2
    · repeat ((conv => whnf); first | refine Br.t ?_ | refine Br.f ?_ | refine ⟨rfl, ?_⟩)
      conv => whnf
      exact ⟨_, Le.slots (by simp [leS, mkS, gcS]), hok h2.symm⟩
    · intros; simp_all
set_option maxHeartbeats 1000000 in
theorem refgchk (p : Pg) (l : List Sec) (js : List Jst) (hfl : p.fs.length ≤ 16) (hll : l.length ≤ 40) (hjl : js.length ≤ 1000) (hg : p.g ≤ 16) (hlk : p.l ≤ 16)
    (hso : ∀ s ∈ l, okSec s) (hw : ∀ f ∈ p.fs, f.length ≤ 100) (hmay : ∀ L ∈ p.fs, ∀ y ∈ L, mayF p y L.length = true) :
    CallW Tryd.prog G0 24 [pgV p, .i (.sl (l.map encSec)), .i (.sl (js.map encJ))] [] (fun r st' => r = fltV (gchk p l js) ∧ st' = []) := by
  refine call_of_bodyF 0 (Nat.le_refl _) Tryd.func24 rfl (fun a w => Tryd.call24 a w) (wpx_ok (own := own0) _ _ _ ?_)
  have cs := shapedR p l hll
  obtain ⟨q, hq⟩ : ∃ q, q = shapedB p l := ⟨_, rfl⟩
  rw [← hq] at cs
  unfold gchk
  rw [← hq]
  repeat ((conv => whnf); first | refine Br.t ?_ | refine Br.f ?_ | refine ⟨rfl, ?_⟩)
  conv => whnf
  refine CallW.mono (cs.pure _ rfl rfl) ?_
  rintro r st' ⟨rfl, rfl⟩
  cases q with
  | false =>
    rw [if_pos (.inl rfl)]
    repeat ((conv => whnf); first | refine Br.t ?_ | refine Br.f ?_ | refine ⟨rfl, ?_⟩)
    conv => whnf
    refine fin (target := []) rfl (Nat.zero_le _) (by simp) rfl rfl
  | true =>
    repeat ((conv => whnf); first | refine Br.t ?_ | refine Br.f ?_ | refine ⟨rfl, ?_⟩)
    conv => whnf
    refine Br.mk (fun k => ?_) (fun k => ?_)
    · have k : (js.length : Int) ≠ p.g := by simpa using k
      rw [if_pos (.inr k)]
      repeat ((conv => whnf); first | refine Br.t ?_ | refine Br.f ?_ | refine ⟨rfl, ?_⟩)
      conv => whnf
      refine fin (target := []) rfl (Nat.zero_le _) (by simp) rfl rfl
    · have k : (js.length : Int) = p.g := by simpa using k
      rw [if_neg (by simp [k])]
      have hq := hq.symm
      unfold shapedB at hq
      simp only [Bool.and_eq_true, decide_eq_true_eq] at hq
      obtain ⟨q1, q2⟩ := hq
      repeat ((conv => whnf); first | refine Br.t ?_ | refine Br.f ?_ | refine ⟨rfl, ?_⟩)
      conv => whnf
      refine W.le (Le.slots (sl' := gcS l js [(7, .i (.int .i64 0))]) (by simp [leS, mkS, gcS])) (gc_right p l js hjl _ (fun g hr => ?_) (fun hr => ?_))
      · rw [hr]
        repeat ((conv => whnf); first | refine Br.t ?_ | refine Br.f ?_ | refine ⟨rfl, ?_⟩)
        conv => whnf
        refine fin (target := []) rfl (Nat.zero_le _) (by simp) rfl rfl
      · rw [hr]
        have hj : JsOk p l js := ⟨k, by omega, fun j hjm => right_lock (rgt_none hr j hjm) hlk⟩
        have hS : SecsOk p l := ⟨hfl, q1, hso, fun f a b => shG_get q2 f _ _ (List.getElem?_eq_getElem a) (List.getElem?_eq_getElem b), hw, hmay⟩
        repeat ((conv => whnf); first | refine Br.t ?_ | refine Br.f ?_ | refine ⟨rfl, ?_⟩)
        conv => whnf
        refine W.le (Le.slots (sl' := gcS l js [(8, .i (.int .i64 0))]) (by simp [leS, mkS, gcS])) (gc_fn p l js hj hS _ (fun f i hr => ?_) (fun hr => ?_))
        · rw [hr]
          repeat ((conv => whnf); first | refine Br.t ?_ | refine Br.f ?_ | refine ⟨rfl, ?_⟩)
          conv => whnf
          refine fin (target := []) rfl (Nat.zero_le _) (by simp) rfl rfl
        · rw [hr]
          repeat ((conv => whnf); first | refine Br.t ?_ | refine Br.f ?_ | refine ⟨rfl, ?_⟩)
          conv => whnf
          refine fin (target := []) rfl (Nat.zero_le _) (by simp) rfl rfl
end Go.Proofs.YtpbbkfekibmaiaaDoor.Am
