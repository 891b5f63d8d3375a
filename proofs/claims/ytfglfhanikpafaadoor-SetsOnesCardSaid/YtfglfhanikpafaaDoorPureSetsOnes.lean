/- The pure statement of SetsOnes: the set of an id, bit by bit. No condition. -/
import Derived.Test.YtfglfhanikpafaaDoorQRdSetsOnes
import Derived.Test.YtfglfhanikpafaaDoorSts
namespace Go.Proofs.YtfglfhanikpafaaDoor.Pure
open Go.RowKit Go.Proofs.YtfglfhanikpafaaDoorW.PrintWords Go.Proofs.YtfglfhanikpafaaDoorW.PrintLast Go.Proofs.YtfglfhanikpafaaDoorW.PrintMore Go.Proofs.YtfglfhanikpafaaDoor.Q Go.Proofs.YtfglfhanikpafaaDoor.Rd Go.Proofs.YtfglfhanikpafaaDoor.Pl Go.Proofs.YtfglfhanikpafaaDoor.Bt Go.Proofs.YtfglfhanikpafaaDoor.Sts Go.Proofs.YtfglfhanikpafaaDoor.Q.OfSetsOnes

theorem SetsOnes : Aim := by
  intro id other h0 h1
  have b0 := bounds_i64 h0
  have b1 := bounds_i64 h1
  refine Ev.rounds (Ev.bind awake ?_)
  by_cases hin : 0 ≤ id ∧ id < 32
  · obtain ⟨i, rfl⟩ := Int.eq_ofNat_of_zero_le hin.1
    have hi : i < 32 := by omega
    have hp := pow32 hi
    refine Ev.congr (f := fun k => alibilaw03_SetsOnes.j0 k (i : Int) other ((2 ^ i : Nat) : Int) false) (fun k => ?_) ?_
    · rw [if_pos rfl, one_in hi, Option.bind_some, if_neg (by omega), decide_eq_false (by omega)]
    · have hne : 2 ^ i ≠ 0 := by have := Nat.two_pow_pos i; omega
      have hids := ids_pow hi
      have hctz : Lib.ctz 32 (2 ^ i) = i := by
        have := ids_cons hne hp
        rw [hids] at this
        exact (List.cons.inj this).1.symm
      refine Ev.one (f := fun k => alibilaw03_SetsOnes.j1 k (i : Int) ((2 ^ i : Nat) : Int) false) ?_ fun k => ?_
      · refine Ev.one (Ev.ret fun k => ?_) fun k => alibilaw03_SetsOnes.j1.eq_2 _ _ _ _
        obtain ⟨e1, _⟩ := all (i := (i : Int)) (k := i) (by unfold mx mn; split <;> split <;> omega)
        obtain ⟨e2, _⟩ := all (i := ((i + 1 : Nat) : Int)) (k := i + 1) (by unfold mx mn; split <;> split <;> omega)
        have hq := Nat.two_pow_pos i
        have hlt : 2 ^ i - 1 < 2 ^ i := by omega
        have hor : (2 ^ i - 1) ||| 2 ^ i = 2 ^ (i + 1) - 1 := by rw [Nat.or_two_pow_eq_add_of_lt hlt, Nat.pow_succ]; omega
        have hand : (2 ^ i - 1) &&& 2 ^ i = 0 := by
          apply Nat.eq_of_testBit_eq
          intro j
          rw [Nat.testBit_and, Nat.testBit_two_pow, Nat.zero_testBit, Nat.testBit_two_pow_sub_one]
          by_cases h : i = j
          · subst h; simp
          · simp [h]
        rw [if_neg (by decide), e1, Option.bind_some, w64_succ i 32 hi (by omega), e2, Option.bind_some, or32 (by omega) hp, if_pos (by rw [hor]), Option.bind_some, and32 (by omega) hp, hand]
        rfl
      · rw [alibilaw03_SetsOnes.j0, if_neg (by decide), count hp, Option.bind_some, hids, if_pos (by rfl), least hne hp, Option.bind_some, hctz, if_pos rfl]
        by_cases ho : 0 ≤ other ∧ other < 32
        · obtain ⟨o, rfl⟩ := Int.eq_ofNat_of_zero_le ho.1
          rw [has_in hp (by omega), Option.bind_some, Nat.testBit_two_pow]
          by_cases h : i = o
          · subst h; simp
          · rw [decide_eq_false h]
            have : ((i : Int) == (o : Int)) = false := by simp only [beq_eq_false_iff_ne, ne_eq]; omega
            rw [this]; rfl
        · rw [has_out (by omega), Option.bind_some]
          have : ((i : Int) == other) = false := by simp; omega
          rw [this]; rfl
  · refine Ev.congr (f := fun k => alibilaw03_SetsOnes.j0 k id other 0 true) (fun k => ?_) ?_
    · rw [if_pos rfl, one_out (by omega), Option.bind_some]
      by_cases h : id < 0
      · rw [if_pos h]
      · rw [if_neg h, decide_eq_true (by omega)]
    · refine Ev.one (Ev.ret fun k => ?_) fun k => alibilaw03_SetsOnes.j0.eq_2 _ _ _ _ _
      rw [if_pos rfl, if_pos rfl, has_out (by omega)]; rfl
end Go.Proofs.YtfglfhanikpafaaDoor.Pure
