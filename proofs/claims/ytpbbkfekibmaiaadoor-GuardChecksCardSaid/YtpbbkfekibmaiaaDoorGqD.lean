/- Contracts: the program's check of justifications. -/
import Derived.Test.YtpbbkfekibmaiaaDoorGqC
namespace Go.Proofs.YtpbbkfekibmaiaaDoor.Am
set_option autoImplicit false
set_option linter.unusedVariables false
set_option linter.unusedSimpArgs false
set_option maxRecDepth 10000
set_option pp.maxSteps 3000
set_option pp.proofs false
set_option maxHeartbeats 1000000 in
theorem shapedP (p : Pg) (l : List Sec) (hl : l.length ≤ 40) : CallW Tryd.prog G0 34 [pgV p, .i (.sl (l.map encSec))] [] (fun r st' => r = .i (.bool (shapedB p l)) ∧ st' = []) := by
  refine call_of_bodyF 0 (Nat.le_refl _) Tryd.func34 rfl (fun a w => Tryd.call34 a w) (wpx_ok (own := own0) _ _ _ ?_)
  repeat ((conv => whnf); first | refine Br.t ?_ | refine Br.f ?_ | refine ⟨rfl, ?_⟩)
  conv => whnf
  refine Br.mk (fun h0 => ?_) (fun h0 => ?_)
  · have h0 : ¬ l.length = p.fs.length := by simp at h0; omega
    repeat ((conv => whnf); first | refine Br.t ?_ | refine Br.f ?_ | refine ⟨rfl, ?_⟩)
    conv => whnf
    refine fin (target := []) rfl (Nat.zero_le _) (by simp) ?_ rfl
    simp [shapedB, h0]
  · have h0 : l.length = p.fs.length := by simp at h0; omega
    have eB : shapedB p l = shG l p.fs := by simp [shapedB, h0]
    obtain ⟨R, hR⟩ : ∃ R, R = shG l p.fs := ⟨_, rfl⟩
    rw [eB, ← hR]
    repeat ((conv => whnf); first | refine Br.t ?_ | refine Br.f ?_ | refine ⟨rfl, ?_⟩)
    conv => whnf
    refine loop_ok (α := Nat) (fun f => ⟨mkS 43 [(2, .ptr 0 0 0 0), (4, .i (.bool false)), (13, .i (.sl (l.map encSec))), (14, .i (.int .i64 l.length)), (15, .i (.int .i64 f))], [pgB p]⟩)
      (fun f => f ≤ l.length ∧ shG (l.drop f) (p.fs.drop f) = R) (fun f => l.length - f) 0 ⟨Nat.zero_le _, hR.symm⟩
      (Le.slots (by simp [leS, mkS])) (fun f hf => wpx_ok (own := own0) _ _ _ ?_)
    obtain ⟨h1, h2⟩ := hf
    repeat ((conv => whnf); first | refine Br.t ?_ | refine Br.f ?_ | refine ⟨rfl, ?_⟩)
    conv => whnf
    refine Br.mk (fun g => ?_) (fun g => ?_)
    · have g : f < l.length := by simpa using g
      obtain ⟨L, hL⟩ : ∃ L, L = p.fs[f]'(by omega) := ⟨_, rfl⟩
      obtain ⟨s, hs⟩ : ∃ s, s = l[f] := ⟨_, rfl⟩
      have eL : (p.fs.map encF).getD (f : Int).toNat [] = encF L := by rw [hL]; exact getD_enc (by omega)
      have es : (l.map encSec).getD (f : Int).toNat [] = encSec s := by rw [hs]; exact getD_enc g
      have edr : p.fs.drop f = L :: p.fs.drop (f + 1) := by rw [hL]; exact List.drop_eq_getElem_cons (by omega)
      have eds : l.drop f = s :: l.drop (f + 1) := by rw [hs]; exact List.drop_eq_getElem_cons g
      rw [edr, eds, shG] at h2
      repeat ((conv => whnf); first | refine Br.t ?_ | refine Br.f ?_ | refine ⟨rfl, ?_⟩)
      conv => whnf
      rw [es]
      refine ⟨⟨by omega, by simp; omega, rfl⟩, ?_⟩
      repeat ((conv => whnf); first | refine Br.t ?_ | refine Br.f ?_ | refine ⟨rfl, ?_⟩)
      conv => whnf
      refine draw_ok (own := own0) [] [] [] rfl (by kernel_rfl) (Nat.zero_le _) ?_
      repeat ((conv => whnf); first | refine Br.t ?_ | refine Br.f ?_ | refine ⟨rfl, ?_⟩)
      conv => whnf
      rw [eL]
      refine ⟨⟨by omega, by simp; omega, rfl⟩, ?_⟩
      repeat ((conv => whnf); first | refine Br.t ?_ | refine Br.f ?_ | refine ⟨rfl, ?_⟩)
      conv => whnf
      refine Br.mk (fun k1 => ?_) (fun k1 => ?_)
      · have k1 : ¬ (shd s).length = L.length := by simp at k1; omega
        rw [if_neg (fun h => k1 h.1)] at h2
        subst h2
        repeat ((conv => whnf); first | refine Br.t ?_ | refine Br.f ?_ | refine ⟨rfl, ?_⟩)
        conv => whnf
        refine ⟨by repeat ((conv => whnf); first | exact trivial | refine ⟨rfl, ?_⟩), trivial, ?_⟩
        conv => whnf
        repeat ((conv => whnf); first | refine Br.t ?_ | refine Br.f ?_ | refine ⟨rfl, ?_⟩)
        conv => whnf
        refine fin (target := []) rfl (Nat.zero_le _) (by simp) rfl rfl
      · have k1 : (shd s).length = L.length := by simp at k1; omega
        repeat ((conv => whnf); first | refine Br.t ?_ | refine Br.f ?_ | refine ⟨rfl, ?_⟩)
        conv => whnf
        rw [eL]
        refine ⟨⟨by omega, by simp; omega, rfl⟩, ?_⟩
        repeat ((conv => whnf); first | refine Br.t ?_ | refine Br.f ?_ | refine ⟨rfl, ?_⟩)
        conv => whnf
        refine ⟨by repeat ((conv => whnf); first | exact trivial | refine ⟨rfl, ?_⟩), trivial, ?_⟩
        conv => whnf
        refine Br.mk (fun k2 => ?_) (fun k2 => ?_)
        · have k2 : ¬ (slv s).length = L.length := by simp at k2; omega
          rw [if_neg (fun h => k2 h.2)] at h2
          subst h2
          repeat ((conv => whnf); first | refine Br.t ?_ | refine Br.f ?_ | refine ⟨rfl, ?_⟩)
          conv => whnf
          refine fin (target := []) rfl (Nat.zero_le _) (by simp) rfl rfl
        · have k2 : (slv s).length = L.length := by simp at k2; omega
          rw [if_pos ⟨k1, k2⟩] at h2
          repeat ((conv => whnf); first | refine Br.t ?_ | refine Br.f ?_ | refine ⟨rfl, ?_⟩)
          conv => whnf
          refine ⟨f + 1, ⟨by omega, h2⟩, by omega, Le.back (fun _ => 0) (by intro id hid; rfl) (by simp) rfl ?_ ?_ ?_⟩
          · intro o ho
            simp only [List.mem_singleton] at ho
            subst ho
            exact pgB_cl p _
          · simp [leS, mkS, V.up]
            exact i64_id (by omega) (by omega)
          · rfl
    · have g : f = l.length := by simp at g; omega
      subst g
      rw [List.drop_length, shG] at h2
      subst h2
      repeat ((conv => whnf); first | refine Br.t ?_ | refine Br.f ?_ | refine ⟨rfl, ?_⟩)
      conv => whnf
      refine fin (target := []) rfl (Nat.zero_le _) (by simp) rfl rfl
      all_goals (intros; simp_all)
def gpS (l : List Sec) (js : List Jst) (x : List (Nat × V)) : List V := mkS 119 ([(1, .i (.sl (l.map encSec))), (2, .i (.sl (js.map encJ))), (3, .ptr 0 0 0 0), (6, .ptr 1 0 0 0), (7, .i (.int .i64 0))] ++ x)
def gpR (js : List Jst) (g : Nat) : List (Nat × V) := [(42, .i (.sl (js.map encJ))), (43, .i (.int .i64 js.length)), (44, .i (.int .i64 g))]
set_option maxHeartbeats 1000000 in
theorem gp_right (p : Pg) (l : List Sec) (js : List Jst) (hj : js.length ≤ 1000) (Q : Exit → S → Prop)
    (hbad : ∀ g, rgtI p.l 0 js = some g → Q .ret ⟨gpS l js [], [pgB p, fltB (-1, (g : Int), 8)]⟩) (hok : rgtI p.l 0 js = none → Q (.exit 0) ⟨gpS l js [], [pgB p, fltB (0, 0, 0)]⟩) :
    W Tryd.prog G0 0 (.loop (lp Tryd.f23 0)) Q ⟨gpS l js (gpR js 0), [pgB p, fltB (0, 0, 0)]⟩ := by
  refine W.weak (loop_ok (α := Nat) (fun g => ⟨gpS l js (gpR js g), [pgB p, fltB (0, 0, 0)]⟩)
    (fun g => g ≤ js.length ∧ rgtI p.l g (js.drop g) = rgtI p.l 0 js) (fun g => js.length - g) 0 ⟨Nat.zero_le _, rfl⟩ (Le.refl _ _) (fun g hg => wpx_ok (own := own0) _ _ _ ?_))
  obtain ⟨h1, h2⟩ := hg
  repeat ((conv => whnf); first | refine Br.t ?_ | refine Br.f ?_ | refine ⟨rfl, ?_⟩)
  conv => whnf
  refine Br.mk (fun k => ?_) (fun k => ?_)
  · have k : g < js.length := by simpa using k
    obtain ⟨j, hje⟩ : ∃ j, j = js[g] := ⟨_, rfl⟩
    have ej : (js.map encJ).getD (g : Int).toNat [] = encJ j := by rw [hje]; exact getD_enc k
    have edj : js.drop g = j :: js.drop (g + 1) := by rw [hje]; exact List.drop_eq_getElem_cons k
    rw [edj, rgtI] at h2
    obtain ⟨q, hq⟩ : ∃ q, q = rightB j p.l := ⟨_, rfl⟩
    have cr := rightP j p.l
    rw [← hq] at cr h2
    repeat ((conv => whnf); first | refine Br.t ?_ | refine Br.f ?_ | refine ⟨rfl, ?_⟩)
    conv => whnf
    rw [ej]
    refine ⟨⟨by omega, by simp; omega, rfl⟩, ?_⟩
    repeat ((conv => whnf); first | refine Br.t ?_ | refine Br.f ?_ | refine ⟨rfl, ?_⟩)
    conv => whnf
    refine CallW.mono (cr.pure _ rfl rfl) ?_
    rintro r st' ⟨rfl, rfl⟩
    cases q with
    | true =>
      rw [if_pos rfl] at h2
      repeat ((conv => whnf); first | refine Br.t ?_ | refine Br.f ?_ | refine ⟨rfl, ?_⟩)
      conv => whnf
      refine ⟨g + 1, ⟨by omega, h2⟩, by omega, Le.back (fun _ => 0) (by intro id hid; rfl) (by simp) rfl (gcB_cl p _ _) ?_ rfl⟩
      simp [leS, mkS, gpS, gpR, V.up]
      exact i64_id (by omega) (by omega)
    | false =>
      rw [if_neg (by simp)] at h2
      repeat ((conv => whnf); first | refine Br.t ?_ | refine Br.f ?_ | refine ⟨rfl, ?_⟩)
      conv => whnf
      refine ⟨_, Le.back (s := ⟨gpS l js [], [pgB p, fltB (-1, (g : Int), 8)]⟩) (fun _ => 0) (by intro id hid; rfl) (by simp) rfl (gcB_cl p _ _) ?_ rfl, hbad g h2.symm⟩
      simp [leS, mkS, gpS, gpR, V.up]
  · have k : g = js.length := by simp at k; omega
    subst k
    rw [List.drop_length, rgtI] at h2
    repeat ((conv => whnf); first | refine Br.t ?_ | refine Br.f ?_ | refine ⟨rfl, ?_⟩)
    conv => whnf
    exact ⟨_, Le.slots (by simp [leS, mkS, gpS, gpR]), hok h2.symm⟩
end Go.Proofs.YtpbbkfekibmaiaaDoor.Am
