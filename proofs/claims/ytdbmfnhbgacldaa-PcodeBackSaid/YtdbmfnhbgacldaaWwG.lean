/- Contracts: the document's bytes of a witness, and the law. -/
import Derived.Test.YtdbmfnhbgacldaaWwF
namespace Go.Proofs.Ytdbmfnhbgacldaa.Am
set_option autoImplicit false
set_option linter.unusedVariables false
set_option linter.unusedSimpArgs false
set_option maxRecDepth 10000
set_option pp.deepTerms false
set_option pp.deepTerms.threshold 6
set_option pp.proofs false
def hz (xs : List (Int × Bool)) (i : Nat) : List (List I) := magic ++ puts xs.length ++ pks (xs.take i)
theorem hz_len (xs : List (Int × Bool)) {i : Nat} (h : i ≤ xs.length) : (hz xs i).length = 4 + (puts xs.length).length + i := by
  simp [hz, magic, pks]; omega
theorem hz_all (xs : List (Int × Bool)) : hz xs xs.length = headW xs := by simp [hz, headW]
theorem hz_succ (xs : List (Int × Bool)) {i : Nat} {x : Int × Bool} (h : xs.take (i + 1) = xs.take i ++ [x]) : hz xs (i + 1) = hz xs i ++ [by8 (pk x)] := by
  simp [hz, h, pks]
theorem pj_t {a : Int} (h1 : 0 ≤ a) (h2 : a < 8) : IntKind.u8.wrap (IntKind.i64.wrap (a + 8)) = ((a.toNat + 8 : Nat) : Int) := by
  rw [i64_id (by omega) (by omega)]
  simp [IntKind.wrap, IntKind.signed, IntKind.bits]; omega
theorem u8_toNat {a : Int} (h1 : 0 ≤ a) (h2 : a < 256) : IntKind.u8.wrap a = (a.toNat : Int) := by
  simp [IntKind.wrap, IntKind.signed, IntKind.bits]; omega
theorem puts_small {n : Nat} (h : n < 128) : puts n = [by8 n] := by rw [puts, putN, dif_pos h]; rfl
theorem write14 (xs : List (Int × Bool)) (a b c : Int) (hx : xs.length ≤ 1000000) (hs : codeS xs = 0) (ho : okW a b c = true) : CallW Try.prog G0 14 [.agg ((encW xs a b c).map .i)] [] (fun r st' => r = .i (.sl (bytesW xs a b c)) ∧ st' = []) := by
  refine call_of_bodyF 0 (Nat.le_refl _) Try.func14 rfl (fun a w => Try.call14 a w) (wpx_ok (own := fun t => t == 6 || t == 7) _ _ _ ?_)
  have hall : xs.all okP = true := by simp only [codeS] at hs; split at hs <;> simp_all
  obtain ⟨a1, a2, b1, b2, c1, c2, hab⟩ := okW_nat ho
  repeat ((conv => whnf); first | refine Br.t ?_ | refine Br.f ?_ | refine ⟨rfl, ?_⟩)
  conv => whnf
  refine ⟨⟨rfl, by decide⟩, ?_⟩
  repeat ((conv => whnf); first | refine Br.t ?_ | refine Br.f ?_ | refine ⟨rfl, ?_⟩)
  conv => whnf
  have c30 : CallW Try.prog G0 30 [.i (.int .i64 ((xs.map encP).length : Nat))] [] (fun r st' => r = .i (.sl (puts xs.length)) ∧ st' = []) := by
    rw [List.length_map]; exact put30 xs.length (by omega)
  refine (c30.pure _ rfl rfl).mono ?_
  rintro r st' ⟨rfl, rfl⟩
  repeat ((conv => whnf); first | refine Br.t ?_ | refine Br.f ?_ | refine ⟨rfl, ?_⟩)
  conv => whnf
  have hp := len_puts (n := xs.length) (by omega)
  refine ⟨apL (one_puts _) rfl 1 rfl rfl (by omega) (len_mx (by omega)), ?_⟩
  repeat ((conv => whnf); first | refine Br.t ?_ | refine Br.f ?_ | refine ⟨rfl, ?_⟩)
  conv => whnf
  refine loop_ok (α := Nat) (fun i => ⟨mkS 51 [(1, .ptr 0 0 0 0), (3, .ref 1 1 0 (hz xs i).length), (4, .i (.int .i64 i))], [row0 xs a b c, .row 1 1 false (lift (hz xs i))]⟩) (fun i => i ≤ xs.length) (fun i => xs.length - i) 0 (Nat.zero_le _)
    (Le.down (fun id => if id = 1 then 1 else 0) (by intro id h; simp at h) ?_ ?_) (fun i h1 => wpx_ok (own := own0) _ _ _ ?_)
  · simp [leS, mkS, V.up, lift, hz, magic, pks]
    omega
  · simp only [upSt, Ob.up, map_up_lift, hz, lift_app, List.take_zero]
    simp [row0, pks, V.up.upAll, V.up, encW]
    rw [show lift ([] : List (List I)) = [] from rfl, List.append_nil]
    rfl
  have hzl := hz_len xs h1
  repeat ((conv => whnf); first | refine Br.t ?_ | refine Br.f ?_ | refine ⟨rfl, ?_⟩)
  conv => whnf
  refine Br.mk (fun h3 => ?_) (fun h3 => ?_)
  · simp at h3
    repeat ((conv => whnf); first | refine Br.t ?_ | refine Br.f ?_ | refine ⟨rfl, ?_⟩)
    conv => whnf
    obtain ⟨x, hxi⟩ : ∃ x, x = xs[i] := ⟨_, rfl⟩
    have e : (xs.map encP).getD (i : Int).toNat [] = encP x := by rw [hxi]; exact getD_enc h3
    have htk : xs.take (i + 1) = xs.take i ++ [x] := by rw [hxi]; simp
    have hok : 0 ≤ x.1 ∧ x.1 < 8 := by
      have := List.all_eq_true.1 hall x (hxi ▸ List.getElem_mem h3)
      simp only [okP] at this; simp at this; omega
    rw [e]
    refine ⟨⟨by omega, by simp; omega, rfl⟩, ?_⟩
    repeat ((conv => whnf); first | refine Br.t ?_ | refine Br.f ?_ | refine ⟨rfl, ?_⟩)
    conv => whnf
    rw [e]
    refine ⟨⟨by omega, by simp; omega, rfl⟩, ?_⟩
    repeat ((conv => whnf); first | refine Br.t ?_ | refine Br.f ?_ | refine ⟨rfl, ?_⟩)
    conv => whnf
    refine Br.mk (fun h6 => ?_) (fun h6 => ?_)
    · repeat ((conv => whnf); first | refine Br.t ?_ | refine Br.f ?_ | refine ⟨rfl, ?_⟩)
      conv => whnf
      have e9 : hz xs (i + 1) = hz xs i ++ [[.int .u8 (IntKind.u8.wrap (IntKind.i64.wrap (x.1 + 8)))]] := by
        rw [hz_succ xs htk]; simp only [by8, pk, h6, if_true, pj_t hok.1 hok.2]
      refine ⟨ap1 rfl 1 rfl (by simp [lift]) (by omega) (len_mx (by omega)), ?_⟩
      repeat ((conv => whnf); first | refine Br.t ?_ | refine Br.f ?_ | refine ⟨rfl, ?_⟩)
      conv => whnf
      refine ⟨i + 1, by omega, by omega, Le.down (fun id => if id = 1 then 1 else 0) (by intro id h; simp at h) ?_ ?_⟩
      · simp [leS, mkS, V.up, lift, e9]
        exact i64_id (by omega) (by omega)
      · simp only [upSt, Ob.up, map_up_lift]
        rw [e9, lift_app]
        rfl
    · repeat ((conv => whnf); first | refine Br.t ?_ | refine Br.f ?_ | refine ⟨rfl, ?_⟩)
      conv => whnf
      have e9 : hz xs (i + 1) = hz xs i ++ [[.int .u8 (IntKind.u8.wrap x.1)]] := by
        rw [hz_succ xs htk]; simp only [by8, pk, h6, pk_f hok.1 hok.2]; rfl
      refine ⟨ap1 rfl 1 rfl (by simp [lift]) (by omega) (len_mx (by omega)), ?_⟩
      repeat ((conv => whnf); first | refine Br.t ?_ | refine Br.f ?_ | refine ⟨rfl, ?_⟩)
      conv => whnf
      refine ⟨i + 1, by omega, by omega, Le.down (fun id => if id = 1 then 1 else 0) (by intro id h; simp at h) ?_ ?_⟩
      · simp [leS, mkS, V.up, lift, e9]
        exact i64_id (by omega) (by omega)
      · simp only [upSt, Ob.up, map_up_lift]
        rw [e9, lift_app]
        rfl
  · simp at h3
    have hi : i = xs.length := by omega
    subst hi
    repeat ((conv => whnf); first | refine Br.t ?_ | refine Br.f ?_ | refine ⟨rfl, ?_⟩)
    conv => whnf
    refine ⟨apL (es := [[.int .u8 (IntKind.u8.wrap a)], [.int .u8 (IntKind.u8.wrap b)], [.int .u8 (IntKind.u8.wrap c)]]) (by intro cs h; simp at h; rcases h with rfl | rfl | rfl <;> rfl) rfl 1 rfl (by simp [lift]) (by simp; omega) (len_mx (by simp; omega)), ?_⟩
    repeat ((conv => whnf); first | refine Br.t ?_ | refine Br.f ?_ | refine ⟨rfl, ?_⟩)
    conv => whnf
    refine ⟨Nat.zero_le _, rfl, hz xs xs.length ++ [[.int .u8 (IntKind.u8.wrap a)], [.int .u8 (IntKind.u8.wrap b)], [.int .u8 (IntKind.u8.wrap c)]], ?_, ?_⟩
    · rw [lift_app]
    · refine fin (target := []) rfl (Nat.zero_le _) (by simp) ?_ rfl
      rw [u8_toNat a1 (by omega), u8_toNat b1 (by omega), u8_toNat c1 (by omega), hz_all]
      simp only [bytesW, puts_small (show a.toNat < 128 by omega), puts_small (show b.toNat < 128 by omega), puts_small (show c.toNat < 128 by omega), List.append_assoc, List.singleton_append, List.drop_zero]
      rw [List.take_of_length_le (by simp [lift])]
      rfl
end Go.Proofs.Ytdbmfnhbgacldaa.Am
