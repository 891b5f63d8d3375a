/- Contracts: sets listed. -/
import Derived.Test.YtdbmfnhbgacldaaDoorWxB
namespace Go.Proofs.YtdbmfnhbgacldaaDoor.Am
set_option autoImplicit false
set_option linter.unusedVariables false
set_option linter.unusedSimpArgs false
set_option maxRecDepth 10000
set_option pp.maxSteps 20000
set_option pp.proofs false
def elI (i : Nat) : List I := [.int .i64 i]
theorem least87 (m : Nat) (hm : m < 4294967296) (h0 : m ≠ 0) : CallW Tryd.prog G1 87 [.i (.int .u32 m)] [] (fun r st' => r = .i (.int .i64 (Lib.ctz 32 m : Nat)) ∧ st' = []) := by
  refine call_of_bodyF 0 (Nat.le_refl _) Tryd.func87 rfl (fun a w => Tryd.call87 a w) (wpx_ok (own := own0) _ _ _ ?_)
  repeat ((conv => whnf); first | refine Br.t ?_ | refine Br.f ?_ | refine ⟨rfl, ?_⟩)
  conv => whnf
  refine Br.mk (fun h => by simp at h; omega) (fun h => ?_)
  repeat ((conv => whnf); first | refine Br.t ?_ | refine Br.f ?_ | refine ⟨rfl, ?_⟩)
  conv => whnf
  refine ((tz100 m hm h0).pure _ rfl rfl).mono ?_
  rintro r st' ⟨rfl, rfl⟩
  repeat ((conv => whnf); first | refine Br.t ?_ | refine Br.f ?_ | refine ⟨rfl, ?_⟩)
  conv => whnf
  refine fin (target := []) rfl (Nat.zero_le _) (by simp) rfl rfl
theorem pred32 {m : Nat} (hm : m < 4294967296) (h0 : m ≠ 0) : IntKind.u32.wrap ((BitVec.ofInt IntKind.u32.bits (m : Int) &&& BitVec.ofInt IntKind.u32.bits (IntKind.u32.wrap ((m : Int) - 1))).toNat : Nat) = ((m &&& (m - 1) : Nat) : Int) := by
  have e1 : IntKind.u32.wrap ((m : Int) - 1) = ((m - 1 : Nat) : Int) := by rw [IntKind.wrap_u32]; omega
  rw [e1, and32 hm (by omega)]
theorem list53 (m : Nat) (hm : m < 4294967296) : CallW Tryd.prog G1 53 [.i (.int .u32 m)] [] (fun r st' => r = .i (.sl ((ids m).map elI)) ∧ st' = []) := by
  refine call_of_bodyF 0 (Nat.le_refl _) Tryd.func53 rfl (fun a w => Tryd.call53 a w) (wpx_ok (own := own0) _ _ _ ?_)
  repeat ((conv => whnf); first | refine Br.t ?_ | refine Br.f ?_ | refine ⟨rfl, ?_⟩)
  conv => whnf
  refine loop_ok (α := Nat × List Nat) (fun x => ⟨mkS 16 [(0, .i (.int .u32 x.1)), (2, .nils), (3, .ref 0 1 0 x.2.length)], [.row 1 1 false (lift (x.2.map elI))]⟩)
    (fun x => x.1 < 4294967296 ∧ x.2 ++ ids x.1 = ids m) (fun x => (ids x.1).length) (m, []) ⟨hm, rfl⟩
    ((Le.nil (n := 0) 3 1 rfl).trans (Le.slots (by simp [leS, mkS]))) (fun x hx => wpx_ok (own := own0) _ _ _ ?_)
  obtain ⟨k, acc⟩ := x
  obtain ⟨h1, h2⟩ := hx
  simp only at h1 h2
  dsimp only
  have hlen := ids_length m
  rw [← h2, List.length_append] at hlen
  repeat ((conv => whnf); first | refine Br.t ?_ | refine Br.f ?_ | refine ⟨rfl, ?_⟩)
  conv => whnf
  refine Br.mk (fun h3 => ?_) (fun h3 => ?_)
  · have h3 : k ≠ 0 := by simp at h3; omega
    repeat ((conv => whnf); first | refine Br.t ?_ | refine Br.f ?_ | refine ⟨rfl, ?_⟩)
    conv => whnf
    refine ((least87 k h1 h3).pure _ rfl rfl).mono ?_
    rintro r st' ⟨rfl, rfl⟩
    repeat ((conv => whnf); first | refine Br.t ?_ | refine Br.f ?_ | refine ⟨rfl, ?_⟩)
    conv => whnf
    refine ⟨⟨by intro cs hcs; simp at hcs; subst hcs; rfl, by simp [lift], by show (acc.length + 1) * 8 ≤ _; omega, len_mx (by simp [lift]; omega)⟩, ?_⟩
    repeat ((conv => whnf); first | refine Br.t ?_ | refine Br.f ?_ | refine ⟨rfl, ?_⟩)
    conv => whnf
    have hc := ids_cons h3 h1
    have hp := pred32 h1 h3
    have hlt : k &&& (k - 1) < 4294967296 := and_lt h1
    refine ⟨(k &&& (k - 1), acc ++ [Lib.ctz 32 k]), ⟨hlt, by rw [← h2, hc]; simp⟩, by rw [hc]; simp, Le.down (fun id => if id = 0 then 1 else 0) (by intro id hid; simp at hid) ?_ ?_⟩
    · simp [leS, mkS, V.up, lift]
      exact hp
    · simp only [upSt, Ob.up, map_up_lift, List.map_append, lift_app]
      rfl
  · have h3 : k = 0 := by simp at h3; omega
    subst h3
    rw [ids_zero, List.append_nil] at h2
    repeat ((conv => whnf); first | refine Br.t ?_ | refine Br.f ?_ | refine ⟨rfl, ?_⟩)
    conv => whnf
    refine ⟨Nat.zero_le _, rfl, acc.map elI, rfl, ?_⟩
    conv => whnf
    refine fin (target := []) rfl (Nat.zero_le _) (by simp) ?_ rfl
    rw [← h2, List.drop_zero, List.take_of_length_le (by simp [lift])]
end Go.Proofs.YtdbmfnhbgacldaaDoor.Am
