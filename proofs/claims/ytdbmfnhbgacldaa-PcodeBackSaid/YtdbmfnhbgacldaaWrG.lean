/- Contracts: a script read. -/
import Derived.Test.YtdbmfnhbgacldaaWrF
namespace Go.Proofs.Ytdbmfnhbgacldaa.Am
set_option autoImplicit false
set_option linter.unusedVariables false
set_option linter.unusedSimpArgs false
set_option maxRecDepth 10000
set_option pp.deepTerms false
set_option pp.deepTerms.threshold 6
set_option pp.proofs false
theorem apG {sz by_ len esl : Nat} {es : List (List I)} (hes : ∀ cs ∈ es, cs.length = sz) (b : Nat) (hb : by_ = b) (h1 : len = esl) (h2 : (len + es.length) * b ≤ 140737488355328) (h3 : len + es.length ≤ Go.maxLen) :
    (∀ cs ∈ es, cs.length = sz) ∧ len = esl ∧ (len + (lift es).length) * by_ ≤ 140737488355328 ∧ len + (lift es).length ≤ Go.maxLen := by
  subst hb
  have : (lift es).length = es.length := by simp [lift]
  rw [this]
  exact ⟨hes, h1, h2, h3⟩
def dec (b : Nat) : Int × Bool := ((b % 8 : Nat), decide (8 ≤ b))
def badAt : Nat → List Nat → Option Nat
  | _, [] => none
  | i, b :: r => if 16 ≤ b then some i else badAt (i + 1) r
def getS (bs : List Nat) : List (Int × Bool) × Nat × Nat := if 4096 < bs.length then ([], 0, 4) else match badAt 0 bs with | some i => ([], i, 3) | none => (bs.map dec, 0, 0)
theorem get39 (bs : List Nat) (hl : bs.length ≤ 1000000) (hb : ∀ b ∈ bs, b < 256) : CallW Try.prog G0 39 [.i (.sl (bs.map by8))] []
    (fun r st' => r = .tup [.i (.sl ((getS bs).1.map encP)), .agg [.i (.int .i64 (getS bs).2.1), .i (.int .i64 (getS bs).2.2)]] ∧ st' = []) := by
  refine call_of_bodyF 0 (Nat.le_refl _) Try.func39 rfl (fun a w => Try.call39 a w) (wpx_ok (own := own0) _ _ _ ?_)
  repeat ((conv => whnf); first | refine Br.t ?_ | refine Br.f ?_ | refine ⟨rfl, ?_⟩)
  conv => whnf
  refine Br.mk (fun h => ?_) (fun h => ?_)
  · simp at h
    have e : getS bs = ([], 0, 4) := by unfold getS; rw [if_pos (by omega)]
    rw [e]
    repeat ((conv => whnf); first | refine Br.t ?_ | refine Br.f ?_ | refine ⟨rfl, ?_⟩)
    conv => whnf
    refine fin (target := []) rfl (Nat.zero_le _) (by simp) rfl rfl
  · simp at h
    have e0 : getS bs = match badAt 0 bs with | some i => ([], i, 3) | none => (bs.map dec, 0, 0) := by unfold getS; rw [if_neg (by omega)]
    repeat ((conv => whnf); first | refine Br.t ?_ | refine Br.f ?_ | refine ⟨rfl, ?_⟩)
    conv => whnf
    refine loop_ok (α := Nat) (fun i => ⟨mkS 34 [(3, .ptr 0 0 0 0), (4, .ref 1 1 0 i), (11, .i (.sl (bs.map by8))), (12, .i (.int .i64 (bs.map by8).length)), (13, .i (.int .i64 i))], [.row 0 2 false [[.i (.int .i64 0), .i (.int .i64 0)]], .row 1 2 false (lift ((bs.take i).map fun b => encP (dec b)))]⟩)
      (fun i => i ≤ bs.length ∧ badAt 0 bs = badAt i (bs.drop i)) (fun i => bs.length - i) 0 ⟨Nat.zero_le _, rfl⟩
      ((Le.nil (n := 0) 4 2 rfl).trans (Le.slots (by simp [leS, mkS]))) (fun i hi => wpx_ok (own := own0) _ _ _ ?_)
    obtain ⟨h1, h2⟩ := hi
    repeat ((conv => whnf); first | refine Br.t ?_ | refine Br.f ?_ | refine ⟨rfl, ?_⟩)
    conv => whnf
    refine Br.mk (fun h3 => ?_) (fun h3 => ?_)
    · simp at h3
      obtain ⟨b, hbi⟩ : ∃ b, b = bs[i] := ⟨_, rfl⟩
      have e : (bs.map by8).getD (i : Int).toNat [] = by8 b := by rw [hbi]; exact getD_enc h3
      have ed : bs.drop i = b :: bs.drop (i + 1) := by rw [hbi]; exact List.drop_eq_getElem_cons h3
      have et : bs.take (i + 1) = bs.take i ++ [b] := by rw [hbi]; simp
      have hb' : b < 256 := hb b (hbi ▸ List.getElem_mem h3)
      rw [ed, badAt] at h2
      repeat ((conv => whnf); first | refine Br.t ?_ | refine Br.f ?_ | refine ⟨rfl, ?_⟩)
      conv => whnf
      rw [e]
      refine ⟨⟨by omega, by simp; omega, rfl⟩, ?_⟩
      repeat ((conv => whnf); first | refine Br.t ?_ | refine Br.f ?_ | refine ⟨rfl, ?_⟩)
      conv => whnf
      refine Br.mk (fun h4 => ?_) (fun h4 => ?_)
      · simp at h4
        rw [if_pos (by omega)] at h2
        rw [h2] at e0
        rw [e0]
        repeat ((conv => whnf); first | refine Br.t ?_ | refine Br.f ?_ | refine ⟨rfl, ?_⟩)
        conv => whnf
        refine fin (target := []) rfl (Nat.zero_le _) (by simp) rfl rfl
      · simp at h4
        rw [if_neg (by omega)] at h2
        repeat ((conv => whnf); first | refine Br.t ?_ | refine Br.f ?_ | refine ⟨rfl, ?_⟩)
        conv => whnf
        refine ⟨by decide, ?_⟩
        repeat ((conv => whnf); first | refine Br.t ?_ | refine Br.f ?_ | refine ⟨rfl, ?_⟩)
        conv => whnf
        refine ⟨apG (es := [[.int .i64 (IntKind.i64.wrap ((b : Int).tmod 8)), .bool (decide ((b : Int) ≥ 8))]]) (by intro cs hcs; simp at hcs; subst hcs; rfl) 16 rfl (by simp [lift]; omega) (by simp; omega) (len_mx (by simp; omega)), ?_⟩
        repeat ((conv => whnf); first | refine Br.t ?_ | refine Br.f ?_ | refine ⟨rfl, ?_⟩)
        conv => whnf
        refine ⟨i + 1, ⟨by omega, h2⟩, by omega, Le.down (fun id => if id = 1 then 1 else 0) (by intro id hid; simp at hid) ?_ ?_⟩
        · simp [leS, mkS, V.up, lift]
          exact i64_id (by omega) (by omega)
        · simp only [upSt, Ob.up, map_up_lift]
          rw [et, List.map_append, lift_app]
          have e9 : [[I.int .i64 (IntKind.i64.wrap ((b : Int).tmod 8)), .bool (decide ((b : Int) ≥ 8))]] = [b].map fun b => encP (dec b) := by
            have x1 : IntKind.i64.wrap ((b : Int).tmod 8) = ((b % 8 : Nat) : Int) := by
              rw [Int.tmod_eq_emod_of_nonneg (by omega), i64_id (by omega) (by omega)]; omega
            rw [x1]
            simp [encP, dec]
            omega
          rw [← e9]
          rfl
    · simp at h3
      have hin : i = bs.length := by omega
      subst hin
      rw [List.drop_length, badAt] at h2
      rw [h2] at e0
      rw [e0]
      repeat ((conv => whnf); first | refine Br.t ?_ | refine Br.f ?_ | refine ⟨rfl, ?_⟩)
      conv => whnf
      refine ⟨Nat.zero_le _, rfl, (bs.take bs.length).map fun b => encP (dec b), rfl, ?_⟩
      conv => whnf
      refine fin (target := []) rfl (Nat.zero_le _) (by simp) ?_ rfl
      rw [List.take_length, List.drop_zero, List.take_of_length_le (by simp)]
      simp
end Go.Proofs.Ytdbmfnhbgacldaa.Am
