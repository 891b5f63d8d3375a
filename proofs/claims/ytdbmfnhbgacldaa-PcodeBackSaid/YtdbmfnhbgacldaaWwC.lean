/- Contracts: a script's bytes. -/
import Derived.Test.YtdbmfnhbgacldaaWwB
namespace Go.Proofs.Ytdbmfnhbgacldaa.Am
set_option autoImplicit false
set_option linter.unusedVariables false
set_option linter.unusedSimpArgs false
set_option maxRecDepth 10000
set_option pp.deepTerms false
set_option pp.deepTerms.threshold 6
set_option pp.proofs false
def encP (x : Int × Bool) : List I := [.int .i64 x.1, .bool x.2]
def okP (x : Int × Bool) : Bool := decide (0 ≤ x.1) && decide (x.1 < 8)
def pk (x : Int × Bool) : Nat := x.1.toNat + if x.2 then 8 else 0
def pks (xs : List (Int × Bool)) : List (List I) := (xs.map pk).map by8
def codeS (xs : List (Int × Bool)) : Int := if 4096 < xs.length then 4 else if xs.all okP then 0 else 1
def i64b (n : Int) : Prop := -9223372036854775808 ≤ n ∧ n ≤ 9223372036854775807
def stP (xs : List (Int × Bool)) (i : Nat) : List V := mkS 38 [(2, .nils), (3, .i (.int .i64 0)), (4, .ref 0 1 0 i), (11, .i (.sl (xs.map encP))), (12, .i (.int .i64 xs.length)), (13, .i (.int .i64 i))]
theorem getD_enc {α : Type} {f : α → List I} {xs : List α} {i : Nat} {d : List I} (h : i < xs.length) : (xs.map f).getD i d = f xs[i] := by
  simp [List.getD_eq_getElem?_getD, h]
theorem codeS_bad {xs : List (Int × Bool)} {x : Int × Bool} (hl : xs.length ≤ 4096) (hx : x ∈ xs) (hb : okP x = false) : codeS xs = 1 := by
  simp only [codeS]
  rw [if_neg (by omega), if_neg]
  intro h
  have := List.all_eq_true.1 h x hx
  rw [hb] at this; cases this
theorem pk_f {a : Int} (h1 : 0 ≤ a) (h2 : a < 8) : IntKind.u8.wrap a = (a.toNat : Int) := by
  simp [IntKind.wrap, IntKind.signed, IntKind.bits]; omega
theorem pk_t {a : Int} (h1 : 0 ≤ a) (h2 : a < 8) : IntKind.u8.wrap (IntKind.u8.wrap a + 8) = ((a.toNat + 8 : Nat) : Int) := by
  simp [IntKind.wrap, IntKind.signed, IntKind.bits]; omega
theorem put25 (xs : List (Int × Bool)) (hx : xs.length ≤ 1000000) : CallW Try.prog G0 25 [.i (.sl (xs.map encP))] []
    (fun r st' => r = .tup [.i (.sl (if codeS xs = 0 then pks xs else [])), .i (.int .i64 (codeS xs))] ∧ st' = []) := by
  refine call_of_bodyF 0 (Nat.le_refl _) Try.func25 rfl (fun a w => Try.call25 a w) (wpx_ok (own := own0) _ _ _ ?_)
  conv => whnf
  refine Br.mk (fun h => ?_) (fun h => ?_)
  · conv => whnf
    simp at h
    have hc : codeS xs = 4 := by simp only [codeS]; rw [if_pos (by omega)]
    refine fin (target := []) rfl (Nat.zero_le _) (by simp) ?_ rfl
    rw [hc]; rfl
  · simp at h
    conv => whnf
    refine loop_ok (α := Nat) (fun i => ⟨stP xs i, [.row 1 1 false (lift (pks (xs.take i)))]⟩) (fun i => i ≤ xs.length ∧ (xs.take i).all okP = true) (fun i => xs.length - i) 0 ⟨Nat.zero_le _, rfl⟩
      ((Le.nil (n := 0) 4 1 rfl).trans (Le.slots (by simp [leS, stP, mkS]))) (fun i hi => wpx_ok (own := own0) _ _ _ ?_)
    obtain ⟨h1, h2⟩ := hi
    conv => whnf
    refine Br.mk (fun h3 => ?_) (fun h3 => ?_)
    · simp at h3
      conv => whnf
      obtain ⟨x, hxi⟩ : ∃ x, x = xs[i] := ⟨_, rfl⟩
      have e : (xs.map encP).getD (i : Int).toNat [] = encP x := by rw [hxi]; exact getD_enc h3
      have htk : xs.take (i + 1) = xs.take i ++ [x] := by rw [hxi]; simp
      rw [e]
      refine ⟨⟨by omega, by simp; omega, rfl⟩, ?_⟩
      repeat ((conv => whnf); first | refine Br.t ?_ | refine Br.f ?_ | refine ⟨rfl, ?_⟩)
      conv => whnf
      refine Br.mk (fun h4 => ?_) (fun h4 => ?_)
      · simp at h4
        repeat ((conv => whnf); first | refine Br.t ?_ | refine Br.f ?_ | refine ⟨rfl, ?_⟩)
        conv => whnf
        have hc : codeS xs = 1 := codeS_bad (by omega) (hxi ▸ List.getElem_mem h3) (by simp only [okP]; simp; omega)
        refine fin (target := []) rfl (Nat.zero_le _) (by simp) ?_ rfl
        rw [hc]; rfl
      · simp at h4
        repeat ((conv => whnf); first | refine Br.t ?_ | refine Br.f ?_ | refine ⟨rfl, ?_⟩)
        conv => whnf
        refine Br.mk (fun h5 => ?_) (fun h5 => ?_)
        · simp at h5
          repeat ((conv => whnf); first | refine Br.t ?_ | refine Br.f ?_ | refine ⟨rfl, ?_⟩)
          conv => whnf
          have hc : codeS xs = 1 := codeS_bad (by omega) (hxi ▸ List.getElem_mem h3) (by simp only [okP]; simp; omega)
          refine fin (target := []) rfl (Nat.zero_le _) (by simp) ?_ rfl
          rw [hc]; rfl
        · simp at h5
          repeat ((conv => whnf); first | refine Br.t ?_ | refine Br.f ?_ | refine ⟨rfl, ?_⟩)
          conv => whnf
          refine Br.mk (fun h6 => ?_) (fun h6 => ?_)
          · repeat ((conv => whnf); first | refine Br.t ?_ | refine Br.f ?_ | refine ⟨rfl, ?_⟩)
            conv => whnf
            refine ⟨ap1 rfl 1 rfl (by simp [lift, pks]; omega) (by omega) (len_mx (by omega)), ?_⟩
            repeat ((conv => whnf); first | refine Br.t ?_ | refine Br.f ?_ | refine ⟨rfl, ?_⟩)
            conv => whnf
            refine ⟨i + 1, ⟨by omega, ?_⟩, by omega, Le.back (fun id => if id = 0 then 1 else 0) (by simp) (Nat.zero_le _) (by rfl) (fun o ho => ?_) ?_ ?_⟩
            · rw [htk, List.all_append, h2]
              simp [okP, h4, h5]
            · simp only [List.mem_singleton] at ho
              subst ho
              exact cl_lift _ _ _ _ _
            · simp [leS, stP, mkS, V.up, lift]
              exact i64_id (by omega) (by omega)
            · have e9 : pks (xs.take i ++ [x]) = pks (xs.take i) ++ [[.int .u8 (IntKind.u8.wrap (IntKind.u8.wrap x.1 + 8))]] := by
                simp only [pks, List.map_append, List.map_cons, List.map_nil, by8, pk, h6, if_true, pk_t h4 h5]
              simp only [upSt, Ob.up, map_up_lift]
              rw [htk, e9, lift_app]
              rfl
          · repeat ((conv => whnf); first | refine Br.t ?_ | refine Br.f ?_ | refine ⟨rfl, ?_⟩)
            conv => whnf
            refine ⟨ap1 rfl 1 rfl (by simp [lift, pks]; omega) (by omega) (len_mx (by omega)), ?_⟩
            repeat ((conv => whnf); first | refine Br.t ?_ | refine Br.f ?_ | refine ⟨rfl, ?_⟩)
            conv => whnf
            refine ⟨i + 1, ⟨by omega, ?_⟩, by omega, Le.back (fun id => if id = 0 then 1 else 0) (by simp) (Nat.zero_le _) (by rfl) (fun o ho => ?_) ?_ ?_⟩
            · rw [htk, List.all_append, h2]
              simp [okP, h4, h5]
            · simp only [List.mem_singleton] at ho
              subst ho
              exact cl_lift _ _ _ _ _
            · simp [leS, stP, mkS, V.up, lift]
              exact i64_id (by omega) (by omega)
            · have e9 : pks (xs.take i ++ [x]) = pks (xs.take i) ++ [[.int .u8 (IntKind.u8.wrap x.1)]] := by
                simp only [pks, List.map_append, List.map_cons, List.map_nil, by8, pk, h6, pk_f h4 h5]
                rfl
              simp only [upSt, Ob.up, map_up_lift]
              rw [htk, e9, lift_app]
              rfl
    · simp at h3
      have e : xs.take i = xs := List.take_of_length_le h3
      have hc : codeS xs = 0 := by rw [e] at h2; simp only [codeS]; rw [if_neg (by omega), if_pos h2]
      conv => whnf
      refine ⟨Nat.le_refl _, rfl, pks (xs.take i), rfl, ?_⟩
      conv => whnf
      refine fin (target := []) rfl (Nat.zero_le _) (by simp) ?_ rfl
      rw [hc, e]
      simp [pks]
      rw [List.take_of_length_le (by simp; omega)]
end Go.Proofs.Ytdbmfnhbgacldaa.Am
