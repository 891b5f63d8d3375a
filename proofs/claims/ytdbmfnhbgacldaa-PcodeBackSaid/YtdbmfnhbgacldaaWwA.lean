/- Contracts: whole numbers as bytes. -/
import Derived.Test.YtdbmfnhbgacldaaAmU
import Derived.Test.YtdbmfnhbgacldaaProg
namespace Go.Proofs.Ytdbmfnhbgacldaa.Am
set_option autoImplicit false
set_option linter.unusedVariables false
set_option linter.unusedSimpArgs false
set_option maxRecDepth 10000
set_option pp.deepTerms false
set_option pp.deepTerms.threshold 6
set_option pp.proofs false
def G0 : Gl := fun _ => none
def own0 : Tmp → Bool := fun _ => false
def ownAll : Tmp → Bool := fun _ => true
def mkS (n : Nat) (l : List (Nat × V)) : List V := l.foldl (fun s x => s.set x.1 x.2) (List.replicate n .undef)
theorem i64_id {n : Int} (h1 : -9223372036854775808 ≤ n) (h2 : n ≤ 9223372036854775807) : IntKind.i64.wrap n = n := by
  unfold IntKind.wrap; simp [IntKind.signed, IntKind.bits]; omega

theorem ap1 {sz by_ len esl : Nat} {x : I} (hsz : 1 = sz) (b : Nat) (hb : by_ = b) (h1 : len = esl) (h2 : (len + 1) * b ≤ 140737488355328) (h3 : len + 1 ≤ Go.maxLen) :
    (∀ cs ∈ [[x]], cs.length = sz) ∧ len = esl ∧ (len + (lift [[x]]).length) * by_ ≤ 140737488355328 ∧ len + (lift [[x]]).length ≤ Go.maxLen := by
  subst hsz hb
  exact ⟨fun cs hcs => by simp at hcs; subst hcs; rfl, h1, h2, h3⟩
theorem lift_app (a b : List (List I)) : lift (a ++ b) = lift a ++ lift b := by simp [lift]
theorem apL {sz by_ len esl : Nat} {es : List (List I)} (hes : ∀ cs ∈ es, cs.length = 1) (hsz : 1 = sz) (b : Nat) (hb : by_ = b) (h1 : len = esl) (h2 : (len + es.length) * b ≤ 140737488355328) (h3 : len + es.length ≤ Go.maxLen) :
    (∀ cs ∈ es, cs.length = sz) ∧ len = esl ∧ (len + (lift es).length) * by_ ≤ 140737488355328 ∧ len + (lift es).length ≤ Go.maxLen := by
  subst hsz hb
  have : (lift es).length = es.length := by simp [lift]
  rw [this]
  exact ⟨hes, h1, h2, h3⟩
theorem u8_small {n : Nat} (h : n < 256) : IntKind.u8.wrap n = n := by
  simp [IntKind.wrap, IntKind.signed, IntKind.bits]; omega
theorem or128 (n : Nat) : IntKind.u8.wrap ((BitVec.ofInt IntKind.u8.bits (IntKind.u8.wrap n) ||| BitVec.ofInt IntKind.u8.bits 128).toNat : Nat) = (n % 128 + 128 : Nat) := by
  have h0 : ∀ m : Fin 256, m.val ||| 128 = m.val % 128 + 128 := by decide
  have h1 : (BitVec.ofInt 8 (IntKind.u8.wrap n)).toNat = n % 256 := by
    simp [IntKind.wrap, IntKind.signed, IntKind.bits, BitVec.toNat_ofInt]
    omega
  have h2 : (BitVec.ofInt IntKind.u8.bits (IntKind.u8.wrap n) ||| BitVec.ofInt IntKind.u8.bits 128).toNat = n % 256 ||| 128 := by
    rw [BitVec.toNat_or]
    show (BitVec.ofInt 8 (IntKind.u8.wrap n)).toNat ||| 128 = _
    rw [h1]
  rw [h2, h0 ⟨n % 256, by omega⟩, u8_small (by simp; omega)]
  simp
theorem len_mx {n : Nat} (h : n ≤ 140737488355328) : n ≤ Go.maxLen := by simp [Go.maxLen]; omega

/-- a whole number, seven bits a byte -/
def putN (n : Nat) : List Nat := if h : n < 128 then [n] else (n % 128 + 128) :: putN (n / 128)
termination_by n
decreasing_by omega
theorem putN_len : ∀ (k n : Nat), n < 128 ^ (k + 1) → (putN n).length ≤ k + 1
  | 0, n, h => by rw [putN, dif_pos (by omega)]; simp
  | k + 1, n, h => by
    rw [putN]
    split
    · simp
    · have := putN_len k (n / 128) (by rw [Nat.pow_succ] at h; exact Nat.div_lt_of_lt_mul (by omega))
      simp; omega
def by8 (b : Nat) : List I := [.int .u8 b]
def mid (n : Nat) (ys : List (List I)) : List V := mkS 19 [(0, .i (.int .u32 n)), (2, .nils), (3, .ref 0 1 0 ys.length)]
theorem put46 (n : Nat) (hn : n < 4294967296) : CallW Try.prog G0 46 [.i (.int .u32 n)] [] (fun r st' => r = .i (.sl ((putN n).map by8)) ∧ st' = []) := by
  refine call_of_bodyF 0 (Nat.le_refl _) Try.func46 rfl (fun a w => Try.call46 a w) (wpx_ok (own := own0) _ _ _ ?_)
  conv => whnf
  refine loop_ok (α := Nat × List Nat) (fun x => ⟨mid x.1 (x.2.map by8), [.row 1 1 false (lift (x.2.map by8))]⟩)
    (fun x => x.1 < 4294967296 ∧ x.2.length ≤ 5 ∧ x.1 * 128 ^ x.2.length ≤ n ∧ x.2 ++ putN x.1 = putN n) (fun x => x.1) (n, []) ⟨hn, by simp, by simp, by simp⟩
    ((Le.nil (n := 0) 3 1 rfl).trans (Le.slots (by simp [leS, mid, mkS]))) (fun x hx => wpx_ok (own := own0) _ _ _ ?_)
  obtain ⟨h1, h2, h3, h4⟩ := hx
  conv => whnf
  refine Br.mk (fun h => ?_) (fun h => ?_)
  · conv => whnf
    refine ⟨by rfl, ?_⟩
    conv => whnf
    refine ⟨ap1 rfl 1 rfl (by simp [lift]) (by simp; omega) (len_mx (by simp; omega)), ?_⟩
    conv => whnf
    refine ⟨by omega, ?_⟩
    conv => whnf
    refine ⟨(x.1 / 128, x.2 ++ [x.1 % 128 + 128]), ?_, ?_, Le.down (fun id => if id = 0 then 1 else 0) ?_ ?_ ?_⟩
    · simp at h
      refine ⟨?_, ?_, ?_, ?_⟩
      · simp only; omega
      · simp only [List.length_append, List.length_cons, List.length_nil]
        have : x.2.length ≠ 5 := fun e => by
          rw [e] at h3
          have : x.1 * 34359738368 ≤ n := h3
          omega
        omega
      · simp only [List.length_append, List.length_cons, List.length_nil, Nat.pow_succ]
        refine Nat.le_trans ?_ h3
        rw [Nat.mul_comm (128 ^ x.2.length), ← Nat.mul_assoc]
        exact Nat.mul_le_mul_right _ (Nat.div_mul_le_self _ _)
      · rw [← h4, List.append_assoc, putN.eq_def x.1, dif_neg (by omega)]
        rfl
    · simp at h
      simp only; omega
    · simp
    · simp [leS, mid, mkS, V.up]
      refine ⟨?_, rfl⟩
      rw [Int.fdiv_eq_ediv_of_nonneg _ (by decide)]
      rfl
    · simp only [upSt, Ob.up, map_up_lift]
      refine congrArg (fun z => [Ob.row 2 1 false z]) ?_
      rw [List.map_append, lift_app]
      refine congrArg (fun z => lift (List.map by8 x.2) ++ lift z) ?_
      simp only [List.map_cons, List.map_nil, by8, or128]
  · conv => whnf
    refine ⟨by rfl, ?_⟩
    conv => whnf
    refine ⟨ap1 rfl 1 rfl (by simp [lift]) (by simp; omega) (len_mx (by simp; omega)), ?_⟩
    conv => whnf
    refine ⟨by omega, rfl, x.2.map by8 ++ [by8 x.1], ?_, ?_⟩
    · rw [lift_app]
      refine congrArg (fun z => lift (List.map by8 x.2) ++ lift z) ?_
      simp only [by8, u8_small (show x.1 < 256 by simp at h; omega)]
    · refine ⟨Nat.zero_le _, rfl, by simp, ?_, rfl⟩
      simp at h
      rw [← h4, putN, dif_pos (by omega)]
      simp [lift]
      exact List.take_of_length_le (by simp)

/-- the same by division, as the document says it -/
theorem put30 : ∀ (n : Nat), n ≤ 140737488355328 → CallW Try.prog G0 30 [.i (.int .i64 n)] [] (fun r st' => r = .i (.sl ((putN n).map by8)) ∧ st' = []) := by
  intro n
  induction n using Nat.strongRecOn with
  | ind n ih =>
  intro hn
  refine call_of_bodyF 0 (Nat.le_refl _) Try.func30 rfl (fun a w => Try.call30 a w) (wpx_ok (own := fun t => t == 12) _ _ _ ?_)
  conv => whnf
  refine Br.mk (fun h => ?_) (fun h => ?_)
  · conv => whnf
    refine ⟨by rfl, ?_⟩
    conv => whnf
    simp at h
    refine ⟨Nat.zero_le _, rfl, by simp, ?_, rfl⟩
    rw [putN, dif_pos (by omega)]
    simp only [u8_small (show n < 256 by omega), List.map_cons, List.map_nil, by8]
  · simp at h
    conv => whnf
    refine ⟨by decide, ?_⟩
    conv => whnf
    refine ⟨by rfl, ?_⟩
    conv => whnf
    refine ⟨by decide, ?_⟩
    conv => whnf
    have e1 : IntKind.i64.wrap ((n : Int).tdiv 128) = ((n / 128 : Nat) : Int) := by
      rw [Int.tdiv_eq_ediv_of_nonneg (by omega), i64_id (by omega) (by omega)]
      rfl
    rw [e1]
    refine ((ih (n / 128) (by omega) (by omega)).pure _ rfl rfl).mono ?_
    rintro r st' ⟨rfl, rfl⟩
    conv => whnf
    refine ⟨apL (by simp [by8]) rfl 1 rfl rfl ?_ (len_mx ?_), ?_⟩
    · have := putN_len 6 (n / 128) (by omega)
      simp only [List.length_map]; omega
    · have := putN_len 6 (n / 128) (by omega)
      simp only [List.length_map]; omega
    conv => whnf
    refine ⟨Nat.le_refl _, rfl, [by8 (n % 128 + 128)] ++ (putN (n / 128)).map by8, ?_, ?_⟩
    · rw [lift_app]
      refine congrArg (fun z => z ++ lift ((putN (n / 128)).map by8)) ?_
      have e2 : IntKind.u8.wrap (IntKind.i64.wrap (128 + (n : Int).tmod 128)) = ((n % 128 + 128 : Nat) : Int) := by
        rw [Int.tmod_eq_emod_of_nonneg (by omega), i64_id (by omega) (by omega)]
        rw [show (128 : Int) + (n : Int) % 128 = ((n % 128 + 128 : Nat) : Int) by omega]
        exact u8_small (by omega)
      show [[V.i (I.int .u8 (IntKind.u8.wrap (IntKind.i64.wrap (128 + (n : Int).tmod 128))))]] = _
      rw [e2]
      rfl
    · refine ⟨Nat.zero_le _, rfl, by simp, ?_, rfl⟩
      rw [putN.eq_def n, dif_neg (by omega)]
      simp only [lift, List.length_map, List.drop_zero, List.map_cons]
      rw [List.take_of_length_le (by simp; omega)]
      rfl
end Go.Proofs.Ytdbmfnhbgacldaa.Am
