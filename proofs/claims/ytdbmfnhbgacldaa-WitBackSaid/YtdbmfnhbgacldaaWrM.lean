/- Contracts: the law that what is written of a witness is read as it was, and what is read is written as it was. -/
import Derived.Test.YtdbmfnhbgacldaaWrL
namespace Go.Proofs.Ytdbmfnhbgacldaa.Am
set_option autoImplicit false
set_option linter.unusedVariables false
set_option linter.unusedSimpArgs false
set_option maxRecDepth 10000
set_option pp.maxSteps 20000
set_option pp.proofs false
theorem u16_i64 {n : Nat} (h : n < 65536) : IntKind.i64.wrap (n : Int) = n := i64_id (by omega) (by omega)
theorem take_by8 (l : List Nat) (k : Nat) : (l.take k).map by8 = (l.map by8).take k := List.map_take
set_option maxHeartbeats 4000000 in
theorem law6 (xs : List (Int × Bool)) (a b c : Int) (hx : xs.length ≤ 9223372036854775807) (bs : List Nat) (hl : bs.length ≤ 9223372036854775807) (hb : ∀ b ∈ bs, b < 256) (cut : Nat) (hct : cut < 65536) :
    CallW Try.prog G0 6 [.agg ((encW xs a b c).map .i), .i (.sl (bs.map by8)), .i (.int .u16 cut)] [] (fun r st' => r = .i (.bool true) ∧ st' = []) := by
  refine call_of_bodyF 0 (Nat.le_refl _) Try.func6 rfl (fun a w => Try.call6 a w) (wpx_ok (own := own0) _ _ _ ?_)
  repeat ((conv => whnf); first | refine Br.t ?_ | refine Br.f ?_ | refine ⟨rfl, ?_⟩)
  conv => whnf
  refine (awake10.pure _ rfl rfl).mono ?_
  rintro r st' ⟨rfl, rfl⟩
  repeat ((conv => whnf); first | refine Br.t ?_ | refine Br.f ?_ | refine ⟨rfl, ?_⟩)
  conv => whnf
  refine Br.mk (fun h => ?_) (fun h => ?_)
  · repeat ((conv => whnf); first | refine Br.t ?_ | refine Br.f ?_ | refine ⟨rfl, ?_⟩)
    conv => whnf
    refine (awake10.pure _ rfl rfl).mono ?_
    rintro r st' ⟨rfl, rfl⟩
    repeat ((conv => whnf); first | refine Br.t ?_ | refine Br.f ?_ | refine ⟨rfl, ?_⟩)
    conv => whnf
    refine fin (target := []) rfl (Nat.zero_le _) (by simp) rfl rfl
  · simp at h
    repeat ((conv => whnf); first | refine Br.t ?_ | refine Br.f ?_ | refine ⟨rfl, ?_⟩)
    conv => whnf
    refine Br.mk (fun h2 => ?_) (fun h2 => ?_)
    · repeat ((conv => whnf); first | refine Br.t ?_ | refine Br.f ?_ | refine ⟨rfl, ?_⟩)
      conv => whnf
      refine (awake10.pure _ rfl rfl).mono ?_
      rintro r st' ⟨rfl, rfl⟩
      repeat ((conv => whnf); first | refine Br.t ?_ | refine Br.f ?_ | refine ⟨rfl, ?_⟩)
      conv => whnf
      refine fin (target := []) rfl (Nat.zero_le _) (by simp) rfl rfl
    · simp at h2
      repeat ((conv => whnf); first | refine Br.t ?_ | refine Br.f ?_ | refine ⟨rfl, ?_⟩)
      conv => whnf
      refine CallW.mono ((write11 xs a b c (by omega)).pure _ rfl rfl) ?_
      rintro r st' ⟨rfl, rfl⟩
      by_cases hc : codeW xs a b c = 0
      · obtain ⟨wl, wb⟩ := natW_byte (w := ⟨xs, a, b, c⟩) hc
        have wr := readW_back (w := ⟨xs, a, b, c⟩) hc
        have wc := fun k hk => readW_cut (w := ⟨xs, a, b, c⟩) hc (k := k) hk
        have wn : bytesW xs a b c = (natW ⟨xs, a, b, c⟩).map by8 := bytes_nat ⟨xs, a, b, c⟩
        have wp : 0 < (natW ⟨xs, a, b, c⟩).length := by simp [natW]
        rw [if_pos hc, hc, wn]
        obtain ⟨nw, hnw⟩ : ∃ l, l = natW ⟨xs, a, b, c⟩ := ⟨_, rfl⟩
        rw [← hnw] at wl wb wr wc wp ⊢
        repeat ((conv => whnf); first | refine Br.t ?_ | refine Br.f ?_ | refine ⟨rfl, ?_⟩)
        conv => whnf
        refine CallW.mono ((read19 nw (by omega) wb).pure _ rfl rfl) ?_
        rintro r st' ⟨rfl, rfl⟩
        rw [wr]
        repeat ((conv => whnf); first | refine Br.t ?_ | refine Br.f ?_ | refine ⟨rfl, ?_⟩)
        conv => whnf
        have ek : (IntKind.i64.wrap (cut : Int)).tmod (((nw.map by8).length : Nat) : Int) = ((cut % nw.length : Nat) : Int) := by
          rw [i64_id (by omega) (by omega), List.length_map]; rfl
        have hk : cut % nw.length < nw.length := Nat.mod_lt _ wp
        refine ⟨by rw [List.length_map]; omega, ?_⟩
        rw [ek]
        obtain ⟨k, hk'⟩ : ∃ k, k = cut % nw.length := ⟨_, rfl⟩
        rw [← hk'] at hk ⊢
        repeat ((conv => whnf); first | refine Br.t ?_ | refine Br.f ?_ | refine ⟨rfl, ?_⟩)
        conv => whnf
        have es : (((nw.map by8).drop (Int.toNat 0)).take ((k : Int).toNat - Int.toNat 0)) = (nw.take k).map by8 := by simp [List.map_take]
        refine ⟨⟨by omega, by omega, by simp; omega, bytes_one _⟩, ?_⟩
        rw [es]
        repeat ((conv => whnf); first | refine Br.t ?_ | refine Br.f ?_ | refine ⟨rfl, ?_⟩)
        conv => whnf
        refine CallW.mono ((read19 (nw.take k) (by simp; omega) (fun b hb => wb b (List.mem_of_mem_take hb))).pure _ rfl rfl) ?_
        rintro r st' ⟨rfl, rfl⟩
        have wk := wc k hk
        obtain ⟨y, ey⟩ : ∃ y, y = readW (nw.take k) := ⟨_, rfl⟩
        rw [← ey] at wk ⊢
        obtain ⟨y1, y2, y3⟩ := y
        simp only at wk
        subst wk
        repeat ((conv => whnf); first | refine Br.t ?_ | refine Br.f ?_ | refine ⟨rfl, ?_⟩)
        conv => whnf
        refine ⟨by kernel_rfl, ?_⟩
        repeat ((conv => whnf); first | refine Br.t ?_ | refine Br.f ?_ | refine ⟨rfl, ?_⟩)
        conv => whnf
        refine CallW.mono ((same21 ⟨xs, a, b, c⟩ ⟨xs, a, b, c⟩ (by simp only; omega) (by simp only; omega)).pure _ rfl rfl) ?_
        rintro r st' ⟨rfl, rfl⟩
        rw [sameW_self]
        repeat ((conv => whnf); first | refine Br.t ?_ | refine Br.f ?_ | refine ⟨rfl, ?_⟩)
        conv => whnf
        have hrl := readW_len bs (by omega) hb
        refine CallW.mono ((read19 bs (by omega) hb).pure _ rfl rfl) ?_
        rintro r st' ⟨rfl, rfl⟩
        repeat ((conv => whnf); first | refine Br.t ?_ | refine Br.f ?_ | refine ⟨rfl, ?_⟩)
        conv => whnf
        by_cases hw : (readW bs).2.2 = 0
        · have ho := readW_once (by omega) hb hw
          refine Br.mk (fun h6 => by simp [hw] at h6) (fun h6 => ?_)
          repeat ((conv => whnf); first | refine Br.t ?_ | refine Br.f ?_ | refine ⟨rfl, ?_⟩)
          conv => whnf
          have hx4 := (codeS_zero (codeW_zero ho.1).1).1
          refine CallW.mono ((write11 (readW bs).1.xs (readW bs).1.a (readW bs).1.b (readW bs).1.c (by omega)).pure _ rfl rfl) ?_
          rintro r st' ⟨rfl, rfl⟩
          rw [if_pos ho.1, bytes_nat, ← ho.2, ho.1]
          repeat ((conv => whnf); first | refine Br.t ?_ | refine Br.f ?_ | refine ⟨rfl, ?_⟩)
          conv => whnf
          refine ⟨isB_ok (isB_map bs), ?_⟩
          repeat ((conv => whnf); first | refine Br.t ?_ | refine Br.f ?_ | refine ⟨rfl, ?_⟩)
          conv => whnf
          refine ⟨isB_ok (isB_map bs), ?_⟩
          repeat ((conv => whnf); first | refine Br.t ?_ | refine Br.f ?_ | refine ⟨rfl, ?_⟩)
          conv => whnf
          refine fin (target := []) rfl (Nat.zero_le _) (by simp) ?_ rfl
          simp
        · have hz := readW_bad hw
          refine Br.mk (fun h6 => ?_) (fun h6 => by simp at h6; exact absurd h6 hw)
          rw [hz]
          repeat ((conv => whnf); first | refine Br.t ?_ | refine Br.f ?_ | refine ⟨rfl, ?_⟩)
          conv => whnf
          refine fin (target := []) rfl (Nat.zero_le _) (by simp) rfl rfl
      · rw [if_neg hc]
        repeat ((conv => whnf); first | refine Br.t ?_ | refine Br.f ?_ | refine ⟨rfl, ?_⟩)
        conv => whnf
        refine Br.mk (fun h4 => by simp at h4; exact absurd h4 hc) (fun h4 => ?_)
        repeat ((conv => whnf); first | refine Br.t ?_ | refine Br.f ?_ | refine ⟨rfl, ?_⟩)
        conv => whnf
        have hrl := readW_len bs (by omega) hb
        refine CallW.mono ((read19 bs (by omega) hb).pure _ rfl rfl) ?_
        rintro r st' ⟨rfl, rfl⟩
        repeat ((conv => whnf); first | refine Br.t ?_ | refine Br.f ?_ | refine ⟨rfl, ?_⟩)
        conv => whnf
        by_cases hw : (readW bs).2.2 = 0
        · have ho := readW_once (by omega) hb hw
          refine Br.mk (fun h6 => by simp [hw] at h6) (fun h6 => ?_)
          repeat ((conv => whnf); first | refine Br.t ?_ | refine Br.f ?_ | refine ⟨rfl, ?_⟩)
          conv => whnf
          have hx4 := (codeS_zero (codeW_zero ho.1).1).1
          refine CallW.mono ((write11 (readW bs).1.xs (readW bs).1.a (readW bs).1.b (readW bs).1.c (by omega)).pure _ rfl rfl) ?_
          rintro r st' ⟨rfl, rfl⟩
          rw [if_pos ho.1, bytes_nat, ← ho.2, ho.1]
          repeat ((conv => whnf); first | refine Br.t ?_ | refine Br.f ?_ | refine ⟨rfl, ?_⟩)
          conv => whnf
          refine ⟨isB_ok (isB_map bs), ?_⟩
          repeat ((conv => whnf); first | refine Br.t ?_ | refine Br.f ?_ | refine ⟨rfl, ?_⟩)
          conv => whnf
          refine ⟨isB_ok (isB_map bs), ?_⟩
          repeat ((conv => whnf); first | refine Br.t ?_ | refine Br.f ?_ | refine ⟨rfl, ?_⟩)
          conv => whnf
          refine fin (target := []) rfl (Nat.zero_le _) (by simp) ?_ rfl
          simp
        · have hz := readW_bad hw
          refine Br.mk (fun h6 => ?_) (fun h6 => by simp at h6; exact absurd h6 hw)
          rw [hz]
          repeat ((conv => whnf); first | refine Br.t ?_ | refine Br.f ?_ | refine ⟨rfl, ?_⟩)
          conv => whnf
          refine fin (target := []) rfl (Nat.zero_le _) (by simp) rfl rfl
end Go.Proofs.Ytdbmfnhbgacldaa.Am
