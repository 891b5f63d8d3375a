/- Contracts: small programs. -/
import Derived.Test.YtiikndppckjmhaaPrD
namespace Go.Proofs.Ytiikndppckjmhaa.Am
set_option autoImplicit false
set_option linter.unusedVariables false
set_option linter.unusedSimpArgs false
set_option maxRecDepth 10000
set_option pp.maxSteps 20000
set_option pp.proofs false
def smallB (p : Pg) : Bool := decide (p.fs.length ≤ 40) && p.fs.all fun f => decide (f.length ≤ 100)
theorem small16 (p : Pg) (hp : okPg p) : CallW Try.prog G0 26 [pgV p] [] (fun r st' => r = .i (.bool (smallB p)) ∧ st' = []) := by
  refine call_of_bodyF 0 (Nat.le_refl _) Try.func26 rfl (fun a w => Try.call26 a w) (wpx_ok (own := own0) _ _ _ ?_)
  obtain ⟨hl, hw⟩ := hp
  repeat ((conv => whnf); first | refine Br.t ?_ | refine Br.f ?_ | refine ⟨rfl, ?_⟩)
  conv => whnf
  refine Br.mk (fun h => ?_) (fun h => ?_)
  · have h : ¬ p.fs.length ≤ 40 := by simp at h; omega
    repeat ((conv => whnf); first | refine Br.t ?_ | refine Br.f ?_ | refine ⟨rfl, ?_⟩)
    conv => whnf
    refine fin (target := []) rfl (Nat.zero_le _) (by simp) ?_ rfl
    simp [smallB, h]
  · have h : p.fs.length ≤ 40 := by simp at h; omega
    repeat ((conv => whnf); first | refine Br.t ?_ | refine Br.f ?_ | refine ⟨rfl, ?_⟩)
    conv => whnf
    refine loop_ok (α := Nat) (fun i => ⟨mkS 22 [(1, .ptr 0 0 0 0), (2, .i (.bool false)), (3, .i (.int .i64 i))], [pgB p]⟩)
      (fun i => i ≤ p.fs.length ∧ (p.fs.take i).all (fun f => decide (f.length ≤ 100)) = true) (fun i => p.fs.length - i) 0 ⟨Nat.zero_le _, rfl⟩
      (Le.slots (by simp [leS, mkS])) (fun i hi => wpx_ok (own := own0) _ _ _ ?_)
    obtain ⟨h1, h2⟩ := hi
    repeat ((conv => whnf); first | refine Br.t ?_ | refine Br.f ?_ | refine ⟨rfl, ?_⟩)
    conv => whnf
    refine Br.mk (fun g => ?_) (fun g => ?_)
    · have g : i < p.fs.length := by simpa using g
      obtain ⟨L, hL⟩ : ∃ L, L = p.fs[i] := ⟨_, rfl⟩
      have hLm : L ∈ p.fs := hL ▸ List.getElem_mem g
      have eL : (p.fs.map encF).getD (i : Int).toNat [] = encF L := by rw [hL]; exact getD_enc g
      have et : p.fs.take (i + 1) = p.fs.take i ++ [L] := by rw [hL]; simp
      repeat ((conv => whnf); first | refine Br.t ?_ | refine Br.f ?_ | refine ⟨rfl, ?_⟩)
      conv => whnf
      rw [eL]
      refine ⟨⟨by omega, by simp; omega, rfl⟩, ?_⟩
      repeat ((conv => whnf); first | refine Br.t ?_ | refine Br.f ?_ | refine ⟨rfl, ?_⟩)
      conv => whnf
      refine Br.mk (fun d => ?_) (fun d => ?_)
      · have d : ¬ L.length ≤ 100 := by simp at d; omega
        repeat ((conv => whnf); first | refine Br.t ?_ | refine Br.f ?_ | refine ⟨rfl, ?_⟩)
        conv => whnf
        refine fin (target := []) rfl (Nat.zero_le _) (by simp) ?_ rfl
        have : smallB p = false := by
          unfold smallB
          rw [Bool.and_eq_false_iff]
          right
          rw [List.all_eq_false]
          exact ⟨L, hLm, by simpa using d⟩
        rw [this]
      · have d : L.length ≤ 100 := by simp at d; omega
        repeat ((conv => whnf); first | refine Br.t ?_ | refine Br.f ?_ | refine ⟨rfl, ?_⟩)
        conv => whnf
        refine ⟨i + 1, ⟨by omega, by rw [et, List.all_append, h2]; simp [d]⟩, by omega, Le.slots ?_⟩
        simp [leS, mkS]
        exact i64_id (by omega) (by omega)
    · have g : i = p.fs.length := by simp at g; omega
      subst g
      rw [List.take_length] at h2
      repeat ((conv => whnf); first | refine Br.t ?_ | refine Br.f ?_ | refine ⟨rfl, ?_⟩)
      conv => whnf
      refine fin (target := []) rfl (Nat.zero_le _) (by simp) ?_ rfl
      simp only [smallB, h2, Bool.and_true, h, decide_true]
theorem chkF_code {p : Pg} : ∀ {f : Nat} {l : List (List Nd)} {r : Int × Int × Int}, chkF p f l = some r → r.2.2 ≠ 0
  | f, [], r, h => by simp [chkF] at h
  | f, L :: l, r, h => by
    rw [chkF] at h
    split at h
    · cases h; simp
    · split at h
      · cases h; simp
      · split at h
        · cases h; simp
        · exact chkF_code h
structure PgOk (p : Pg) : Prop where
  g : 0 ≤ p.g ∧ p.g ≤ 16
  l : 0 ≤ p.l ∧ p.l ≤ 16
  s : 0 ≤ p.s ∧ p.s ≤ 8
  n : 0 < p.fs.length ∧ p.fs.length ≤ 16
  f : ∀ L ∈ p.fs, 0 < L.length ∧ L.length ≤ 64 ∧ ∀ x ∈ L, mayF p x L.length = true
  r : rndF p 0 p.fs = none
theorem chk_zero {p : Pg} (h : (chk p).2.2 = 0) : PgOk p := by
  unfold chk at h
  split at h
  · simp at h
  · rename_i h1
    split at h
    · simp at h
    · rename_i h2
      cases hc : chkF p 0 p.fs with
      | some r => rw [hc] at h; exact absurd h (chkF_code hc)
      | none =>
        rw [hc] at h
        simp only at h
        cases hr : rndF p 0 p.fs with
        | some x => rw [hr] at h; simp at h
        | none => exact ⟨by omega, by omega, by omega, by omega, chkF_none hc, hr⟩
theorem chk_ok {p : Pg} (h : PgOk p) : chk p = (0, 0, 0) := by
  have hc : chkF p 0 p.fs = none := by
    have key : ∀ (l : List (List Nd)) (f : Nat), (∀ L ∈ l, 0 < L.length ∧ L.length ≤ 64 ∧ ∀ x ∈ L, mayF p x L.length = true) → chkF p f l = none := by
      intro l
      induction l with
      | nil => intro f _; rfl
      | cons L l ih =>
        intro f hl
        obtain ⟨a, b, c⟩ := hl L (by simp)
        have hb : ∀ (m : List Nd) (i : Nat), (∀ x ∈ m, mayF p x L.length = true) → badN p L.length i m = none := by
          intro m
          induction m with
          | nil => intro i _; rfl
          | cons x m ihm =>
            intro i hm
            rw [badN, if_pos (hm x (by simp))]
            exact ihm (i + 1) (fun y hy => hm y (by simp [hy]))
        rw [chkF, if_neg (by omega), if_neg (by omega), hb L 0 c]
        exact ih (f + 1) (fun M hM => hl M (by simp [hM]))
    exact key p.fs 0 h.f
  unfold chk
  have := h.g; have := h.l; have := h.s; have := h.n
  rw [if_neg (by omega), if_neg (by omega), hc, h.r]
theorem PgOk.calls {p : Pg} (h : PgOk p) : Calls0 p := fun f hf n hn h7 => may_call ((h.f f hf).2.2 n hn) h7
end Go.Proofs.Ytiikndppckjmhaa.Am
