/- Contracts: small programs, like programs. -/
import Derived.Test.YtdbmfnhbgacldaaPrD
namespace Go.Proofs.Ytdbmfnhbgacldaa.Am
set_option autoImplicit false
set_option linter.unusedVariables false
set_option linter.unusedSimpArgs false
set_option maxRecDepth 10000
set_option pp.maxSteps 20000
set_option pp.proofs false
def smallB (p : Pg) : Bool := decide (p.fs.length ≤ 40) && p.fs.all fun f => decide (f.length ≤ 100)
theorem small16 (p : Pg) (hp : okPg p) : CallW Try.prog G0 16 [pgV p] [] (fun r st' => r = .i (.bool (smallB p)) ∧ st' = []) := by
  refine call_of_bodyF 0 (Nat.le_refl _) Try.func16 rfl (fun a w => Try.call16 a w) (wpx_ok (own := own0) _ _ _ ?_)
  obtain ⟨hl, hw⟩ := hp
  repeat ((conv => whnf); first | refine Br.t ?_ | refine Br.f ?_ | refine ⟨rfl, ?_⟩)
  conv => whnf
  refine Br.mk (fun h => ?_) (fun h => ?_)
  · have h : ¬ p.fs.length ≤ 40 := by simp at h; omega
    repeat ((conv => whnf); first | refine Br.t ?_ | refine Br.f ?_ | refine ⟨rfl, ?_⟩)
    conv => whnf
    refine fin (target := []) rfl (Nat.zero_le _) (by simp) ?_ rfl
    simp [smallB, h]
  · have h : p.fs.length ≤ 40 := by simp at h; omega
    repeat ((conv => whnf); first | refine Br.t ?_ | refine Br.f ?_ | refine ⟨rfl, ?_⟩)
    conv => whnf
    refine loop_ok (α := Nat) (fun i => ⟨mkS 22 [(1, .ptr 0 0 0 0), (2, .i (.bool false)), (3, .i (.int .i64 i))], [pgB p]⟩)
      (fun i => i ≤ p.fs.length ∧ (p.fs.take i).all (fun f => decide (f.length ≤ 100)) = true) (fun i => p.fs.length - i) 0 ⟨Nat.zero_le _, rfl⟩
      (Le.slots (by simp [leS, mkS])) (fun i hi => wpx_ok (own := own0) _ _ _ ?_)
    obtain ⟨h1, h2⟩ := hi
    repeat ((conv => whnf); first | refine Br.t ?_ | refine Br.f ?_ | refine ⟨rfl, ?_⟩)
    conv => whnf
    refine Br.mk (fun g => ?_) (fun g => ?_)
    · have g : i < p.fs.length := by simpa using g
      obtain ⟨L, hL⟩ : ∃ L, L = p.fs[i] := ⟨_, rfl⟩
      have hLm : L ∈ p.fs := hL ▸ List.getElem_mem g
      have eL : (p.fs.map encF).getD (i : Int).toNat [] = encF L := by rw [hL]; exact getD_enc g
      have et : p.fs.take (i + 1) = p.fs.take i ++ [L] := by rw [hL]; simp
      repeat ((conv => whnf); first | refine Br.t ?_ | refine Br.f ?_ | refine ⟨rfl, ?_⟩)
      conv => whnf
      rw [eL]
      refine ⟨⟨by omega, by simp; omega, rfl⟩, ?_⟩
      repeat ((conv => whnf); first | refine Br.t ?_ | refine Br.f ?_ | refine ⟨rfl, ?_⟩)
      conv => whnf
      refine Br.mk (fun d => ?_) (fun d => ?_)
      · have d : ¬ L.length ≤ 100 := by simp at d; omega
        repeat ((conv => whnf); first | refine Br.t ?_ | refine Br.f ?_ | refine ⟨rfl, ?_⟩)
        conv => whnf
        refine fin (target := []) rfl (Nat.zero_le _) (by simp) ?_ rfl
        have : smallB p = false := by
          unfold smallB
          rw [Bool.and_eq_false_iff]
          right
          rw [List.all_eq_false]
          exact ⟨L, hLm, by simpa using d⟩
        rw [this]
      · have d : L.length ≤ 100 := by simp at d; omega
        repeat ((conv => whnf); first | refine Br.t ?_ | refine Br.f ?_ | refine ⟨rfl, ?_⟩)
        conv => whnf
        refine ⟨i + 1, ⟨by omega, by rw [et, List.all_append, h2]; simp [d]⟩, by omega, Le.slots ?_⟩
        simp [leS, mkS]
        exact i64_id (by omega) (by omega)
    · have g : i = p.fs.length := by simp at g; omega
      subst g
      rw [List.take_length] at h2
      repeat ((conv => whnf); first | refine Br.t ?_ | refine Br.f ?_ | refine ⟨rfl, ?_⟩)
      conv => whnf
      refine fin (target := []) rfl (Nat.zero_le _) (by simp) ?_ rfl
      simp only [smallB, h2, Bool.and_true, h, decide_true]
def samePg (p q : Pg) : Bool := decide (p.g = q.g) && decide (p.l = q.l) && decide (p.s = q.s) && decide (p.fs = q.fs)
set_option maxHeartbeats 2000000 in
theorem same18 (p q : Pg) (hp : okPg p) (hq : okPg q) : CallW Try.prog G0 18 [pgV p, pgV q] [] (fun r st' => r = .i (.bool (samePg p q)) ∧ st' = []) := by
  refine call_of_bodyF 0 (Nat.le_refl _) Try.func18 rfl (fun a w => Try.call18 a w) (wpx_ok (own := own0) _ _ _ ?_)
  obtain ⟨hl, hw⟩ := hp
  obtain ⟨hl', hw'⟩ := hq
  repeat ((conv => whnf); first | refine Br.t ?_ | refine Br.f ?_ | refine ⟨rfl, ?_⟩)
  conv => whnf
  refine Br.mk (fun d => ?_) (fun d1 => ?_)
  · have d : p.g ≠ q.g := by simpa using d
    repeat ((conv => whnf); first | refine Br.t ?_ | refine Br.f ?_ | refine ⟨rfl, ?_⟩)
    conv => whnf
    refine fin (target := []) rfl (Nat.zero_le _) (by simp) ?_ rfl
    have : samePg p q = false := by simp [samePg, d]
    rw [this]
  · have d1 : p.g = q.g := by simpa using d1
    repeat ((conv => whnf); first | refine Br.t ?_ | refine Br.f ?_ | refine ⟨rfl, ?_⟩)
    conv => whnf
    refine Br.mk (fun d => ?_) (fun d2 => ?_)
    · have d : p.l ≠ q.l := by simpa using d
      repeat ((conv => whnf); first | refine Br.t ?_ | refine Br.f ?_ | refine ⟨rfl, ?_⟩)
      conv => whnf
      refine fin (target := []) rfl (Nat.zero_le _) (by simp) ?_ rfl
      have : samePg p q = false := by simp [samePg, d]
      rw [this]
    · have d2 : p.l = q.l := by simpa using d2
      repeat ((conv => whnf); first | refine Br.t ?_ | refine Br.f ?_ | refine ⟨rfl, ?_⟩)
      conv => whnf
      refine Br.mk (fun d => ?_) (fun d3 => ?_)
      · have d : p.s ≠ q.s := by simpa using d
        repeat ((conv => whnf); first | refine Br.t ?_ | refine Br.f ?_ | refine ⟨rfl, ?_⟩)
        conv => whnf
        refine fin (target := []) rfl (Nat.zero_le _) (by simp) ?_ rfl
        have : samePg p q = false := by simp [samePg, d]
        rw [this]
      · have d3 : p.s = q.s := by simpa using d3
        repeat ((conv => whnf); first | refine Br.t ?_ | refine Br.f ?_ | refine ⟨rfl, ?_⟩)
        conv => whnf
        refine Br.mk (fun d => ?_) (fun d4 => ?_)
        · have d : p.fs ≠ q.fs := by
            intro e
            rw [e] at d
            simp at d
          repeat ((conv => whnf); first | refine Br.t ?_ | refine Br.f ?_ | refine ⟨rfl, ?_⟩)
          conv => whnf
          refine fin (target := []) rfl (Nat.zero_le _) (by simp) ?_ rfl
          have : samePg p q = false := by simp [samePg, d]
          rw [this]
        · have d4 : p.fs.length = q.fs.length := by simp at d4; omega
          repeat ((conv => whnf); first | refine Br.t ?_ | refine Br.f ?_ | refine ⟨rfl, ?_⟩)
          conv => whnf
          refine loop_ok (α := Nat) (fun f => ⟨mkS 82 [(2, .ptr 0 0 0 0), (3, .ptr 1 0 0 0), (4, .i (.bool false)), (5, .i (.int .i64 f))], [pgB p, pgB q]⟩)
            (fun f => f ≤ p.fs.length ∧ p.fs.take f = q.fs.take f) (fun f => p.fs.length - f) 0 ⟨Nat.zero_le _, rfl⟩
            (Le.slots (by simp [leS, mkS])) (fun f hf => wpx_ok (own := own0) _ _ _ ?_)
          obtain ⟨h1, h2⟩ := hf
          repeat ((conv => whnf); first | refine Br.t ?_ | refine Br.f ?_ | refine ⟨rfl, ?_⟩)
          conv => whnf
          refine Br.mk (fun g => ?_) (fun g => ?_)
          · have g : f < p.fs.length := by simpa using g
            obtain ⟨L, hL⟩ : ∃ L, L = p.fs[f] := ⟨_, rfl⟩
            obtain ⟨M, hM⟩ : ∃ M, M = q.fs[f]'(by omega) := ⟨_, rfl⟩
            have hLm := hw L (hL ▸ List.getElem_mem g)
            have hMm := hw' M (hM ▸ List.getElem_mem (by omega))
            have eL : (p.fs.map encF).getD (f : Int).toNat [] = encF L := by rw [hL]; exact getD_enc g
            have eM : (q.fs.map encF).getD (f : Int).toNat [] = encF M := by rw [hM]; exact getD_enc (by omega)
            have et : p.fs.take (f + 1) = p.fs.take f ++ [L] := by rw [hL]; simp
            have et' : q.fs.take (f + 1) = q.fs.take f ++ [M] := by rw [hM]; simp
            repeat ((conv => whnf); first | refine Br.t ?_ | refine Br.f ?_ | refine ⟨rfl, ?_⟩)
            conv => whnf
            refine draw_ok (own := own0) [] [] [] rfl (by kernel_rfl) (Nat.zero_le _) ?_
            repeat ((conv => whnf); first | refine Br.t ?_ | refine Br.f ?_ | refine ⟨rfl, ?_⟩)
            conv => whnf
            rw [eL]
            refine ⟨⟨by omega, by simp; omega, rfl⟩, ?_⟩
            repeat ((conv => whnf); first | refine Br.t ?_ | refine Br.f ?_ | refine ⟨rfl, ?_⟩)
            conv => whnf
            rw [eM]
            refine ⟨⟨by omega, by simp; omega, rfl⟩, ?_⟩
            repeat ((conv => whnf); first | refine Br.t ?_ | refine Br.f ?_ | refine ⟨rfl, ?_⟩)
            conv => whnf
            refine ⟨by repeat ((conv => whnf); first | exact trivial | refine ⟨rfl, ?_⟩), trivial, ?_⟩
            conv => whnf
            refine Br.mk (fun d => ?_) (fun d5 => ?_)
            · have d : p.fs ≠ q.fs := by
                intro e
                have : L = M := by rw [hL, hM]; simp [e]
                rw [this] at d
                simp at d
              repeat ((conv => whnf); first | refine Br.t ?_ | refine Br.f ?_ | refine ⟨rfl, ?_⟩)
              conv => whnf
              refine fin (target := []) rfl (Nat.zero_le _) (by simp) ?_ rfl
              have : samePg p q = false := by simp [samePg, d]
              rw [this]
            · have d5 : L.length = M.length := by simp at d5; omega
              repeat ((conv => whnf); first | refine Br.t ?_ | refine Br.f ?_ | refine ⟨rfl, ?_⟩)
              conv => whnf
              refine loop_ok (α := Nat) (fun i => ⟨mkS 82 [(2, .ptr 0 0 0 0), (3, .ptr 1 0 0 0), (4, .i (.bool false)), (5, .i (.int .i64 f)), (6, .i (.int .i64 i))], [pgB p, pgB q]⟩)
                (fun i => i ≤ L.length ∧ L.take i = M.take i) (fun i => L.length - i) 0 ⟨Nat.zero_le _, rfl⟩
                (Le.slots (by simp [leS, mkS])) (fun i hi => wpx_ok (own := own0) _ _ _ ?_)
              obtain ⟨h3, h4⟩ := hi
              repeat ((conv => whnf); first | refine Br.t ?_ | refine Br.f ?_ | refine ⟨rfl, ?_⟩)
              conv => whnf
              rw [eL]
              refine ⟨⟨by omega, by simp; omega, rfl⟩, ?_⟩
              repeat ((conv => whnf); first | refine Br.t ?_ | refine Br.f ?_ | refine ⟨rfl, ?_⟩)
              conv => whnf
              refine Br.mk (fun g1 => ?_) (fun g1 => ?_)
              · have g1 : i < L.length := by simpa using g1
                obtain ⟨x, hx⟩ : ∃ x, x = L[i] := ⟨_, rfl⟩
                obtain ⟨y, hy⟩ : ∃ y, y = M[i]'(by omega) := ⟨_, rfl⟩
                have ex : (L.map encNd).getD (i : Int).toNat [] = encNd x := by rw [hx]; exact getD_enc g1
                have ey : (M.map encNd).getD (i : Int).toNat [] = encNd y := by rw [hy]; exact getD_enc (by omega)
                have ext : L.take (i + 1) = L.take i ++ [x] := by rw [hx]; simp
                have eyt : M.take (i + 1) = M.take i ++ [y] := by rw [hy]; simp
                repeat ((conv => whnf); first | refine Br.t ?_ | refine Br.f ?_ | refine ⟨rfl, ?_⟩)
                conv => whnf
                refine draw_ok (own := own0) [] [] [] rfl (by kernel_rfl) (Nat.zero_le _) ?_
                repeat ((conv => whnf); first | refine Br.t ?_ | refine Br.f ?_ | refine ⟨rfl, ?_⟩)
                conv => whnf
                rw [eL]
                refine ⟨⟨by omega, by simp; omega, rfl⟩, ?_⟩
                repeat ((conv => whnf); first | refine Br.t ?_ | refine Br.f ?_ | refine ⟨rfl, ?_⟩)
                conv => whnf
                rw [ex]
                refine ⟨⟨by omega, by simp; omega, rfl⟩, ?_⟩
                repeat ((conv => whnf); first | refine Br.t ?_ | refine Br.f ?_ | refine ⟨rfl, ?_⟩)
                conv => whnf
                rw [eM]
                refine ⟨⟨by omega, by simp; omega, rfl⟩, ?_⟩
                repeat ((conv => whnf); first | refine Br.t ?_ | refine Br.f ?_ | refine ⟨rfl, ?_⟩)
                conv => whnf
                rw [ey]
                refine ⟨⟨by omega, by simp; omega, rfl⟩, ?_⟩
                repeat ((conv => whnf); first | refine Br.t ?_ | refine Br.f ?_ | refine ⟨rfl, ?_⟩)
                conv => whnf
                refine ⟨by kernel_rfl, ?_⟩
                repeat ((conv => whnf); first | refine Br.t ?_ | refine Br.f ?_ | refine ⟨rfl, ?_⟩)
                conv => whnf
                refine ⟨by repeat ((conv => whnf); first | exact trivial | refine ⟨rfl, ?_⟩), trivial, ?_⟩
                conv => whnf
                refine Br.mk (fun d => ?_) (fun d6 => ?_)
                · have d : p.fs ≠ q.fs := by
                    intro e
                    have e1 : L = M := by rw [hL, hM]; simp [e]
                    have e2 : x = y := by rw [hx, hy]; simp [e1]
                    rw [e2] at d
                    simp at d
                  repeat ((conv => whnf); first | refine Br.t ?_ | refine Br.f ?_ | refine ⟨rfl, ?_⟩)
                  conv => whnf
                  refine fin (target := []) rfl (Nat.zero_le _) (by simp) ?_ rfl
                  have : samePg p q = false := by simp [samePg, d]
                  rw [this]
                · have d6 : x = y := by
                    obtain ⟨x1, x2, x3, x4⟩ := x
                    obtain ⟨y1, y2, y3, y4⟩ := y
                    simp at d6
                    simp [d6]
                  repeat ((conv => whnf); first | refine Br.t ?_ | refine Br.f ?_ | refine ⟨rfl, ?_⟩)
                  conv => whnf
                  refine ⟨i + 1, ⟨by omega, by rw [ext, eyt, h4, d6]⟩, by omega, Le.slots ?_⟩
                  simp [leS, mkS]
                  exact i64_id (by omega) (by omega)
              · have g1 : i = L.length := by simp at g1; omega
                have e1 : L = M := by rw [List.take_of_length_le (by omega), List.take_of_length_le (by omega)] at h4; exact h4
                repeat ((conv => whnf); first | refine Br.t ?_ | refine Br.f ?_ | refine ⟨rfl, ?_⟩)
                conv => whnf
                refine ⟨f + 1, ⟨by omega, by rw [et, et', h2, e1]⟩, by omega, Le.slots ?_⟩
                simp [leS, mkS]
                exact i64_id (by omega) (by omega)
          · have g : f = p.fs.length := by simp at g; omega
            have e1 : p.fs = q.fs := by rw [List.take_of_length_le (by omega), List.take_of_length_le (by omega)] at h2; exact h2
            repeat ((conv => whnf); first | refine Br.t ?_ | refine Br.f ?_ | refine ⟨rfl, ?_⟩)
            conv => whnf
            refine fin (target := []) rfl (Nat.zero_le _) (by simp) ?_ rfl
            simp [samePg, d1, d2, d3, e1]
end Go.Proofs.Ytdbmfnhbgacldaa.Am
namespace Go.Proofs.Ytdbmfnhbgacldaa.Am
set_option autoImplicit false
set_option linter.unusedVariables false
set_option linter.unusedSimpArgs false
set_option maxRecDepth 10000
set_option pp.maxSteps 20000
set_option pp.proofs false
def partsL (k : Int) : List Nat := if k = 9 then [] else if k = 0 then [2] else if k = 5 then [1, 2, 3] else if k = 8 then [2, 3] else [1, 2]
def ndB (n : Nd) : Ob := .row 0 4 false [(encNd n).map .i]
def ptrB (id : Nat) (l : List Nat) : Ob := .row 1 1 false (l.map fun c => [.ptr id 0 0 c])
theorem parts32a (n : Nd) (h : n.1 = 9) : CallW Try.prog G0 32 [.ptr 0 0 0 0] [ndB n] (fun r st' => r = .nils ∧ st' = [ndB n]) := by
  refine call_of_body Try.func32 rfl (fun a w => Try.call32 a w) (wpx_ok (own := ownAll) _ _ _ ?_)
  obtain ⟨k, a, x, y⟩ := n
  simp only at h
  subst h
  repeat ((conv => whnf); first | refine Br.t ?_ | refine Br.f ?_ | refine ⟨rfl, ?_⟩)
  conv => whnf
  exact rfl
theorem parts32 (n : Nd) (h : n.1 ≠ 9) : CallW Try.prog G0 32 [.ptr 0 0 0 0] [ndB n] (fun r st' => r = .ref 1 1 0 (partsL n.1).length ∧ st' = [ndB n, ptrB 0 (partsL n.1)]) := by
  refine call_of_body Try.func32 rfl (fun a w => Try.call32 a w) (wpx_ok (own := ownAll) _ _ _ ?_)
  obtain ⟨k, a, x, y⟩ := n
  simp only at h ⊢
  repeat ((conv => whnf); first | refine Br.t ?_ | refine Br.f ?_ | refine ⟨rfl, ?_⟩)
  conv => whnf
  refine Br.mk (fun q => by simp at q; exact absurd q h) (fun q9 => ?_)
  repeat ((conv => whnf); first | refine Br.t ?_ | refine Br.f ?_ | refine ⟨rfl, ?_⟩)
  conv => whnf
  refine Br.mk (fun q => ?_) (fun q0 => ?_)
  · have q : k = 0 := by simpa using q
    subst q
    repeat ((conv => whnf); first | refine Br.t ?_ | refine Br.f ?_ | refine ⟨rfl, ?_⟩)
    conv => whnf
    exact rfl
  · have q0 : k ≠ 0 := by simpa using q0
    repeat ((conv => whnf); first | refine Br.t ?_ | refine Br.f ?_ | refine ⟨rfl, ?_⟩)
    conv => whnf
    refine Br.mk (fun q => ?_) (fun q5 => ?_)
    · have q : k = 5 := by simpa using q
      subst q
      repeat ((conv => whnf); first | refine Br.t ?_ | refine Br.f ?_ | refine ⟨rfl, ?_⟩)
      conv => whnf
      refine draw_ok (own := ownAll) [9] [] [] rfl (by kernel_rfl) (by simp) ?_
      repeat ((conv => whnf); first | refine Br.t ?_ | refine Br.f ?_ | refine ⟨rfl, ?_⟩)
      conv => whnf
      refine ⟨by repeat ((conv => whnf); first | exact trivial | refine ⟨rfl, ?_⟩), trivial, ?_⟩
      conv => whnf
      exact ⟨rfl, rfl⟩
    · have q5 : k ≠ 5 := by simpa using q5
      repeat ((conv => whnf); first | refine Br.t ?_ | refine Br.f ?_ | refine ⟨rfl, ?_⟩)
      conv => whnf
      refine Br.mk (fun q => ?_) (fun q8 => ?_)
      · have q : k = 8 := by simpa using q
        subst q
        repeat ((conv => whnf); first | refine Br.t ?_ | refine Br.f ?_ | refine ⟨rfl, ?_⟩)
        conv => whnf
        refine draw_ok (own := ownAll) [6] [] [] rfl (by kernel_rfl) (by simp) ?_
        repeat ((conv => whnf); first | refine Br.t ?_ | refine Br.f ?_ | refine ⟨rfl, ?_⟩)
        conv => whnf
        refine ⟨by repeat ((conv => whnf); first | exact trivial | refine ⟨rfl, ?_⟩), trivial, ?_⟩
        conv => whnf
        exact ⟨rfl, rfl⟩
      · have q8 : k ≠ 8 := by simpa using q8
        repeat ((conv => whnf); first | refine Br.t ?_ | refine Br.f ?_ | refine ⟨rfl, ?_⟩)
        conv => whnf
        refine draw_ok (own := ownAll) [6] [] [] rfl (by kernel_rfl) (by simp) ?_
        repeat ((conv => whnf); first | refine Br.t ?_ | refine Br.f ?_ | refine ⟨rfl, ?_⟩)
        conv => whnf
        refine ⟨by repeat ((conv => whnf); first | exact trivial | refine ⟨rfl, ?_⟩), trivial, ?_⟩
        conv => whnf
        have ep : partsL k = [1, 2] := by unfold partsL; rw [if_neg h, if_neg q0, if_neg q5, if_neg q8]
        rw [ep]
        exact ⟨rfl, rfl⟩
end Go.Proofs.Ytdbmfnhbgacldaa.Am
