/- Contracts: the document's reader takes bytes. -/
import Derived.Test.YtdbmfnhbgacldaaWrE
namespace Go.Proofs.Ytdbmfnhbgacldaa.Am
set_option autoImplicit false
set_option linter.unusedVariables false
set_option linter.unusedSimpArgs false
set_option maxRecDepth 10000
set_option pp.deepTerms false
set_option pp.deepTerms.threshold 6
set_option pp.proofs false
def cut (s : Rd) (i : Nat) : List (List I) := ((s.bs.drop s.p).take i).map by8
theorem raw40 (s : Rd) (hok : s.ok) (n : Int) (hn0 : n ≤ 9223372036854775807) : CallW Try.prog G0 40 [.ptr 0 0 0 0, .i (.int .i64 n)] [rdB s] (fun r st' => r = .i (.sl ((s.raw n).1.map by8)) ∧ st' = [rdB (s.raw n).2]) := by
  refine call_of_bodyF 1 (Nat.le_refl _) Try.func40 rfl (fun a w => Try.call40 a w) (wpx_ok (own := own0) _ _ _ ?_)
  obtain ⟨k1, k2, k3⟩ := hok
  have eleft : IntKind.i64.wrap (((s.bs.map by8).length : Nat) - (s.p : Int)) = (s.left : Int) := by
    have hl : s.left = s.bs.length - s.p := rfl
    rw [List.length_map, i64_id (by omega) (by omega)]; omega
  repeat ((conv => whnf); first | refine Br.t ?_ | refine Br.f ?_ | refine ⟨rfl, ?_⟩)
  conv => whnf
  refine Br.mk (fun h => ?_) (fun h => ?_)
  · simp at h
    have e : s.raw n = ([], s) := by simp [Rd.raw, h]
    rw [e]
    repeat ((conv => whnf); first | refine Br.t ?_ | refine Br.f ?_ | refine ⟨rfl, ?_⟩)
    conv => whnf
    refine fin (target := [rdB s]) rfl (Nat.le_refl _) (rdB_cl _) rfl rfl
  · simp at h
    repeat ((conv => whnf); first | refine Br.t ?_ | refine Br.f ?_ | refine ⟨rfl, ?_⟩)
    conv => whnf
    refine Br.mk (fun h1 => ?_) (fun h1 => ?_)
    · simp at h1
      have e : s.raw n = ([], s.fail 1) := by simp [Rd.raw, h, h1]
      rw [e]
      repeat ((conv => whnf); first | refine Br.t ?_ | refine Br.f ?_ | refine ⟨rfl, ?_⟩)
      conv => whnf
      refine (fail42 s 1).mono ?_
      rintro r st' ⟨rfl, rfl⟩
      repeat ((conv => whnf); first | refine Br.t ?_ | refine Br.f ?_ | refine ⟨rfl, ?_⟩)
      conv => whnf
      refine fin (target := [rdB (s.fail 1)]) rfl (Nat.le_refl _) (rdB_cl _) rfl rfl
    · simp at h1
      repeat ((conv => whnf); first | refine Br.t ?_ | refine Br.f ?_ | refine ⟨rfl, ?_⟩)
      conv => whnf
      refine draw_ok (own := own0) [] [] [] rfl (by kernel_rfl) (Nat.le_refl _) ?_
      repeat ((conv => whnf); first | refine Br.t ?_ | refine Br.f ?_ | refine ⟨rfl, ?_⟩)
      conv => whnf
      refine ⟨by repeat ((conv => whnf); first | exact trivial | refine ⟨rfl, ?_⟩), trivial, ?_⟩
      conv => whnf
      rw [eleft]
      have hl : s.left = s.bs.length - s.p := rfl
      refine Br.mk (fun h2 => ?_) (fun h2 => ?_)
      · simp only [decide_eq_true_eq] at h2
        have e : s.raw n = ([], s.fail 2) := by simp only [Rd.raw]; rw [if_neg (by omega), if_neg (by omega), if_pos (by omega)]
        rw [e]
        repeat ((conv => whnf); first | refine Br.t ?_ | refine Br.f ?_ | refine ⟨rfl, ?_⟩)
        conv => whnf
        refine (fail42 s 2).mono ?_
        rintro r st' ⟨rfl, rfl⟩
        repeat ((conv => whnf); first | refine Br.t ?_ | refine Br.f ?_ | refine ⟨rfl, ?_⟩)
        conv => whnf
        refine fin (target := [rdB (s.fail 2)]) rfl (Nat.le_refl _) (rdB_cl _) rfl rfl
      · simp only [decide_eq_false_iff_not] at h2
        have e : s.raw n = ((s.bs.drop s.p).take n.toNat, { s with p := s.p + n.toNat }) := by simp only [Rd.raw]; rw [if_neg (by omega), if_neg (by omega), if_neg (by omega)]
        rw [e]
        obtain ⟨n, rfl⟩ := Int.eq_ofNat_of_zero_le h1
        repeat ((conv => whnf); first | refine Br.t ?_ | refine Br.f ?_ | refine ⟨rfl, ?_⟩)
        conv => whnf
        refine loop_ok (α := Nat) (fun i => ⟨mkS 60 [(0, .ptr 0 0 0 0), (1, .i (.int .i64 n)), (5, .ref 1 1 0 i), (6, .i (.int .i64 i))], [rdB s, .row 1 1 false (lift (cut s i))]⟩) (fun i => i ≤ n) (fun i => n - i) 0 (Nat.zero_le _)
          ((Le.nil (n := 1) 5 1 rfl).trans (Le.slots (by simp [leS, mkS]))) (fun i hi => wpx_ok (own := own0) _ _ _ ?_)
        repeat ((conv => whnf); first | refine Br.t ?_ | refine Br.f ?_ | refine ⟨rfl, ?_⟩)
        conv => whnf
        refine Br.mk (fun h3 => ?_) (fun h3 => ?_)
        · simp at h3
          have hip : s.p + i < s.bs.length := by omega
          have ew : IntKind.i64.wrap ((s.p : Int) + (i : Int)) = ((s.p + i : Nat) : Int) := by rw [i64_id (by omega) (by omega)]; rfl
          have ee : (s.bs.map by8).getD (((s.p + i : Nat) : Int)).toNat [] = by8 (s.bs[s.p + i]'hip) := getD_enc hip
          have ec : cut s (i + 1) = cut s i ++ [by8 (s.bs[s.p + i]'hip)] := by
            unfold cut
            rw [show (s.bs.drop s.p).take (i + 1) = (s.bs.drop s.p).take i ++ [s.bs[s.p + i]'hip] by
              rw [List.take_add_one]; simp [hip]]
            simp
          have el : (cut s i).length = i := by simp [cut]; omega
          repeat ((conv => whnf); first | refine Br.t ?_ | refine Br.f ?_ | refine ⟨rfl, ?_⟩)
          conv => whnf
          refine draw_ok (own := own0) [14] [] [] rfl (by kernel_rfl) (Nat.le_succ _) ?_
          repeat ((conv => whnf); first | refine Br.t ?_ | refine Br.f ?_ | refine ⟨rfl, ?_⟩)
          conv => whnf
          rw [ew, ee]
          refine ⟨⟨by omega, by simp; omega, rfl⟩, ?_⟩
          repeat ((conv => whnf); first | refine Br.t ?_ | refine Br.f ?_ | refine ⟨rfl, ?_⟩)
          conv => whnf
          refine ⟨ap1 rfl 1 rfl (by simp [lift, el]) (by omega) (len_mx (by omega)), ?_⟩
          repeat ((conv => whnf); first | refine Br.t ?_ | refine Br.f ?_ | refine ⟨rfl, ?_⟩)
          conv => whnf
          refine ⟨by repeat ((conv => whnf); first | exact trivial | refine ⟨rfl, ?_⟩), trivial, ?_⟩
          conv => whnf
          refine ⟨i + 1, by omega, by omega, Le.down (fun id => if id = 1 then 1 else 0) ?_ ?_ ?_⟩
          · intro id hid
            have : id = 0 := Nat.lt_one_iff.1 hid
            subst this; rfl
          · simp [leS, mkS, V.up, lift]
            exact i64_id (by omega) (by omega)
          · simp only [upSt, Ob.up, map_up_lift]
            rw [ec, lift_app]
            rfl
        · simp at h3
          have hin : i = n := by omega
          subst hin
          repeat ((conv => whnf); first | refine Br.t ?_ | refine Br.f ?_ | refine ⟨rfl, ?_⟩)
          conv => whnf
          refine ⟨Nat.le_refl _, rfl, cut s i, rfl, ?_⟩
          have ew : IntKind.i64.wrap ((s.p : Int) + (i : Int)) = ((s.p + i : Nat) : Int) := by rw [i64_id (by omega) (by omega)]; rfl
          refine fin (target := [rdB { s with p := s.p + (i : Int).toNat }]) ?_ (by simp) (rdB_cl _) ?_ rfl
          · show [Ob.row 0 4 false [[.i (.sl (s.bs.map by8)), .i (.int .i64 (IntKind.i64.wrap ((s.p : Int) + (i : Int)))), .i (.int .i64 s.a), .i (.int .i64 s.why)]]] = _
            rw [ew]; rfl
          · rw [List.drop_zero, List.take_of_length_le (by simp [cut]; omega)]
            rfl
end Go.Proofs.Ytdbmfnhbgacldaa.Am
