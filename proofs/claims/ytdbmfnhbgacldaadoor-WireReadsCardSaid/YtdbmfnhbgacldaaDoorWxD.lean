/- Contracts: the document's sets; masks. -/
import Derived.Test.YtdbmfnhbgacldaaDoorWxC
import Derived.Test.YtdbmfnhbgacldaaDoorPvB
import Derived.Test.YtdbmfnhbgacldaaDoorWrH
namespace Go.Proofs.YtdbmfnhbgacldaaDoor.Am
set_option autoImplicit false
set_option linter.unusedVariables false
set_option linter.unusedSimpArgs false
set_option maxRecDepth 10000
set_option pp.maxSteps 20000
set_option pp.proofs false
theorem has88 (m i : Nat) (hm : m < 4294967296) (hi : i < 32) : CallW Tryd.prog G0 88 [.i (.int .u32 m), .i (.int .i64 i)] [] (fun r st' => r = .i (.bool (m.testBit i)) ∧ st' = []) := by
  refine call_of_bodyF 0 (Nat.le_refl _) Tryd.func88 rfl (fun a w => Tryd.call88 a w) (wpx_ok (own := own0) _ _ _ ?_)
  repeat ((conv => whnf); first | refine Br.t ?_ | refine Br.f ?_ | refine ⟨rfl, ?_⟩)
  conv => whnf
  refine Br.mk (fun h1 => by simp at h1; omega) (fun h1 => ?_)
  repeat ((conv => whnf); first | refine Br.t ?_ | refine Br.f ?_ | refine ⟨rfl, ?_⟩)
  conv => whnf
  refine loop_ok (α := Nat) (fun j => ⟨mkS 25 [(1, .i (.int .i64 i)), (4, .i (.bool false)), (5, .i (.int .u64 (m / 2 ^ j : Nat))), (6, .i (.int .i64 j))], []⟩)
    (fun j => j ≤ i) (fun j => i - j) 0 (Nat.zero_le _)
    (Le.slots (by simp [leS, mkS]; exact u64_small (by omega))) (fun j hj => wpx_ok (own := own0) _ _ _ ?_)
  repeat ((conv => whnf); first | refine Br.t ?_ | refine Br.f ?_ | refine ⟨rfl, ?_⟩)
  conv => whnf
  have hle : m / 2 ^ j < 4294967296 := Nat.lt_of_le_of_lt (Nat.div_le_self _ _) hm
  refine Br.mk (fun h2 => ?_) (fun h2 => ?_)
  · have h2 : j < i := by simp at h2; omega
    repeat ((conv => whnf); first | refine Br.t ?_ | refine Br.f ?_ | refine ⟨rfl, ?_⟩)
    conv => whnf
    refine ⟨by decide, ?_⟩
    repeat ((conv => whnf); first | refine Br.t ?_ | refine Br.f ?_ | refine ⟨rfl, ?_⟩)
    conv => whnf
    refine ⟨j + 1, by omega, by omega, Le.slots ?_⟩
    have e : IntKind.u64.wrap (((m / 2 ^ j : Nat) : Int).tdiv 2) = ((m / 2 ^ (j + 1) : Nat) : Int) := by
      rw [show (((m / 2 ^ j : Nat) : Int).tdiv 2) = ((m / 2 ^ j / 2 : Nat) : Int) from rfl, u64_small (by omega), Nat.div_div_eq_div_mul, ← Nat.pow_succ]
    simp at e
    simp [leS, mkS]
    exact ⟨e, i64_id (by omega) (by omega)⟩
  · have h2 : j = i := by simp at h2; omega
    subst h2
    repeat ((conv => whnf); first | refine Br.t ?_ | refine Br.f ?_ | refine ⟨rfl, ?_⟩)
    conv => whnf
    refine ⟨by decide, ?_⟩
    repeat ((conv => whnf); first | refine Br.t ?_ | refine Br.f ?_ | refine ⟨rfl, ?_⟩)
    conv => whnf
    refine fin (target := []) rfl (Nat.zero_le _) (by simp) ?_ rfl
    rw [show (((m / 2 ^ j : Nat) : Int).tmod 2) = ((m / 2 ^ j % 2 : Nat) : Int) from rfl, Nat.testBit_eq_decide_div_mod_eq]
    rcases Nat.mod_two_eq_zero_or_one (m / 2 ^ j) with h1 | h1 <;> rw [h1] <;> rfl
theorem one58 (i : Nat) (hi : i < 32) : CallW Tryd.prog G0 58 [.i (.int .i64 i)] [] (fun r st' => r = .i (.int .u32 (2 ^ i : Nat)) ∧ st' = []) := by
  refine call_of_bodyF 0 (Nat.le_refl _) Tryd.func58 rfl (fun a w => Tryd.call58 a w) (wpx_ok (own := own0) _ _ _ ?_)
  repeat ((conv => whnf); first | refine Br.t ?_ | refine Br.f ?_ | refine ⟨rfl, ?_⟩)
  conv => whnf
  refine Br.mk (fun h1 => by simp at h1; omega) (fun h1 => ?_)
  repeat ((conv => whnf); first | refine Br.t ?_ | refine Br.f ?_ | refine ⟨rfl, ?_⟩)
  conv => whnf
  refine ⟨by omega, ?_⟩
  repeat ((conv => whnf); first | refine Br.t ?_ | refine Br.f ?_ | refine ⟨rfl, ?_⟩)
  conv => whnf
  refine fin (target := []) rfl (Nat.zero_le _) (by simp) ?_ rfl
  have := pow32 hi
  rw [Int.toNat_natCast, Nat.min_eq_left (by show i ≤ 32; omega), Int.one_mul, show (2 : Int) ^ i = ((2 ^ i : Nat) : Int) by simp, u32_small this]
theorem list54 (m : Nat) (hm : m < 4294967296) : CallW Tryd.prog G0 54 [.i (.int .u32 m)] [] (fun r st' => r = .i (.sl ((ids m).map elI)) ∧ st' = []) := by
  refine call_of_bodyF 0 (Nat.le_refl _) Tryd.func54 rfl (fun a w => Tryd.call54 a w) (wpx_ok (own := own0) _ _ _ ?_)
  repeat ((conv => whnf); first | refine Br.t ?_ | refine Br.f ?_ | refine ⟨rfl, ?_⟩)
  conv => whnf
  refine loop_ok (α := Nat) (fun j => ⟨mkS 17 [(0, .i (.int .u32 m)), (2, .nils), (3, .ref 0 1 0 ((List.range j).filter fun i => m.testBit i).length), (4, .i (.int .i64 j))], [.row 1 1 false (lift (((List.range j).filter fun i => m.testBit i).map elI))]⟩)
    (fun j => j ≤ 32) (fun j => 32 - j) 0 (Nat.zero_le _)
    ((Le.nil (n := 0) 3 1 rfl).trans (Le.slots (by simp [leS, mkS]))) (fun j hj => wpx_ok (own := own0) _ _ _ ?_)
  have hlen : ((List.range j).filter fun i => m.testBit i).length ≤ j := by
    have := List.length_filter_le (fun i => m.testBit i) (List.range j)
    rwa [List.length_range] at this
  repeat ((conv => whnf); first | refine Br.t ?_ | refine Br.f ?_ | refine ⟨rfl, ?_⟩)
  conv => whnf
  refine Br.mk (fun h2 => ?_) (fun h2 => ?_)
  · have h2 : j < 32 := by simp at h2; omega
    have er : List.range (j + 1) = List.range j ++ [j] := List.range_succ
    repeat ((conv => whnf); first | refine Br.t ?_ | refine Br.f ?_ | refine ⟨rfl, ?_⟩)
    conv => whnf
    refine ((has88 m j hm h2).pure _ rfl rfl).mono ?_
    rintro r st' ⟨rfl, rfl⟩
    repeat ((conv => whnf); first | refine Br.t ?_ | refine Br.f ?_ | refine ⟨rfl, ?_⟩)
    conv => whnf
    refine Br.mk (fun h3 => ?_) (fun h3 => ?_)
    · repeat ((conv => whnf); first | refine Br.t ?_ | refine Br.f ?_ | refine ⟨rfl, ?_⟩)
      conv => whnf
      refine ⟨⟨by intro cs hcs; simp at hcs; subst hcs; rfl, by simp [lift], by show (_ + 1) * 8 ≤ _; omega, len_mx (by simp [lift]; omega)⟩, ?_⟩
      repeat ((conv => whnf); first | refine Br.t ?_ | refine Br.f ?_ | refine ⟨rfl, ?_⟩)
      conv => whnf
      have e2 : ((List.range (j + 1)).filter fun i => m.testBit i) = ((List.range j).filter fun i => m.testBit i) ++ [j] := by rw [er, List.filter_append]; simp [h3]
      refine ⟨j + 1, by omega, by omega, Le.down (fun id => if id = 0 then 1 else 0) (by intro id hid; simp at hid) ?_ ?_⟩
      · rw [e2]
        simp [leS, mkS, V.up, lift]
        exact i64_id (by omega) (by omega)
      · simp only [upSt, Ob.up, map_up_lift]
        rw [e2, List.map_append, lift_app]
        rfl
    · repeat ((conv => whnf); first | refine Br.t ?_ | refine Br.f ?_ | refine ⟨rfl, ?_⟩)
      conv => whnf
      have e2 : ((List.range (j + 1)).filter fun i => m.testBit i) = ((List.range j).filter fun i => m.testBit i) := by rw [er, List.filter_append]; simp [h3]
      refine ⟨j + 1, by omega, by omega, ?_⟩
      rw [e2]
      refine Le.slots ?_
      simp [leS, mkS]
      exact i64_id (by omega) (by omega)
  · have h2 : j = 32 := by simp at h2; omega
    subst h2
    repeat ((conv => whnf); first | refine Br.t ?_ | refine Br.f ?_ | refine ⟨rfl, ?_⟩)
    conv => whnf
    refine ⟨Nat.zero_le _, rfl, (ids m).map elI, rfl, ?_⟩
    conv => whnf
    refine fin (target := []) rfl (Nat.zero_le _) (by simp) ?_ rfl
    rw [List.drop_zero, List.take_of_length_le (by simp [ids, lift])]
theorem mul2 {a : Nat} (h : a < 4294967296) : IntKind.u64.wrap ((a : Int) * 2) = ((a * 2 : Nat) : Int) := by
  rw [show (a : Int) * 2 = ((a * 2 : Nat) : Int) by omega, u64_small (by omega)]
theorem mask59 (l : List Nat) (hl : ∀ i ∈ l, i < 32) (hp : l.Pairwise (· < ·)) : CallW Tryd.prog G0 59 [.i (.sl (l.map elI))] [] (fun r st' => r = .i (.int .u32 (pows l : Nat)) ∧ st' = []) := by
  refine call_of_bodyF 0 (Nat.le_refl _) Tryd.func59 rfl (fun a w => Tryd.call59 a w) (wpx_ok (own := own0) _ _ _ ?_)
  have hsm := pows_lt hp hl
  have hlen : l.length ≤ 32 := by rw [← ids_pows hp hl]; exact ids_length _
  have hpt : ∀ j, pows (l.take j) < 4294967296 := fun j => pows_lt (hp.sublist (List.take_sublist j l)) (fun i hi => hl i (List.mem_of_mem_take hi))
  repeat ((conv => whnf); first | refine Br.t ?_ | refine Br.f ?_ | refine ⟨rfl, ?_⟩)
  conv => whnf
  refine loop_ok (α := Nat) (fun j => ⟨mkS 28 [(0, .i (.sl (l.map elI))), (2, .i (.int .u32 0)), (3, .i (.int .u64 (pows (l.take j) : Nat))), (4, .i (.int .i64 j))], []⟩)
    (fun j => j ≤ l.length) (fun j => l.length - j) 0 (Nat.zero_le _)
    (Le.slots (by simp [leS, mkS, pows])) (fun j hj => wpx_ok (own := own0) _ _ _ ?_)
  have hpj := hpt j
  repeat ((conv => whnf); first | refine Br.t ?_ | refine Br.f ?_ | refine ⟨rfl, ?_⟩)
  conv => whnf
  refine Br.mk (fun h2 => ?_) (fun h2 => ?_)
  · have h2 : j < l.length := by simpa using h2
    obtain ⟨x, hx⟩ : ∃ x, x = l[j] := ⟨_, rfl⟩
    have ex : (l.map elI).getD (j : Int).toNat [] = elI x := by rw [hx]; exact getD_enc h2
    have et : l.take (j + 1) = l.take j ++ [x] := by rw [hx]; simp
    have hx32 : x < 32 := hl x (hx ▸ List.getElem_mem h2)
    have h1 := hpt (j + 1)
    have h232 := pow32 hx32
    rw [et, pows_snoc] at h1
    repeat ((conv => whnf); first | refine Br.t ?_ | refine Br.f ?_ | refine ⟨rfl, ?_⟩)
    conv => whnf
    refine loop_ok (α := Nat) (fun i => ⟨mkS 28 [(0, .i (.sl (l.map elI))), (2, .i (.int .u32 0)), (3, .i (.int .u64 (pows (l.take j) : Nat))), (4, .i (.int .i64 j)), (5, .i (.int .u64 (2 ^ i : Nat))), (6, .i (.int .i64 i))], []⟩)
      (fun i => i ≤ x) (fun i => x - i) 0 (Nat.zero_le _)
      (Le.slots (by simp [leS, mkS])) (fun i hi => wpx_ok (own := own0) _ _ _ ?_)
    repeat ((conv => whnf); first | refine Br.t ?_ | refine Br.f ?_ | refine ⟨rfl, ?_⟩)
    conv => whnf
    rw [ex]
    refine ⟨⟨by omega, by simp; omega, rfl⟩, ?_⟩
    repeat ((conv => whnf); first | refine Br.t ?_ | refine Br.f ?_ | refine ⟨rfl, ?_⟩)
    conv => whnf
    refine Br.mk (fun h3 => ?_) (fun h3 => ?_)
    · have h3 : i < x := by simp at h3; omega
      have h2i := pow32 (show i < 32 by omega)
      repeat ((conv => whnf); first | refine Br.t ?_ | refine Br.f ?_ | refine ⟨rfl, ?_⟩)
      conv => whnf
      refine ⟨i + 1, by omega, by omega, Le.slots ?_⟩
      have e := mul2 h2i
      simp at e
      simp [leS, mkS]
      exact ⟨by rw [e, Int.pow_succ], i64_id (by omega) (by omega)⟩
    · have h3 : i = x := by simp at h3; omega
      subst h3
      repeat ((conv => whnf); first | refine Br.t ?_ | refine Br.f ?_ | refine ⟨rfl, ?_⟩)
      conv => whnf
      refine ⟨j + 1, by omega, by omega, Le.slots ?_⟩
      rw [et, pows_snoc]
      simp [leS, mkS]
      exact ⟨by rw [show (pows (l.take j) : Int) + 2 ^ i = ((pows (l.take j) + 2 ^ i : Nat) : Int) by simp, u64_small (by omega)], i64_id (by omega) (by omega)⟩
  · have h2 : j = l.length := by simp at h2; omega
    subst h2
    repeat ((conv => whnf); first | refine Br.t ?_ | refine Br.f ?_ | refine ⟨rfl, ?_⟩)
    conv => whnf
    refine fin (target := []) rfl (Nat.zero_le _) (by simp) ?_ rfl
    rw [List.take_length, u32_small hsm]
end Go.Proofs.YtdbmfnhbgacldaaDoor.Am
