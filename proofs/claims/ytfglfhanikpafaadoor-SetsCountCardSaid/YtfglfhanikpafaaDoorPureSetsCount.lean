/- The pure statement of SetsCount: bits are counted id by id; within is an order. No condition. -/
import Derived.Test.YtfglfhanikpafaaDoorQRdSetsCount
import Derived.Test.YtfglfhanikpafaaDoorSts
namespace Go.Proofs.YtfglfhanikpafaaDoor.Pure
open Go.RowKit Go.Proofs.YtfglfhanikpafaaDoorW.PrintWords Go.Proofs.YtfglfhanikpafaaDoorW.PrintLast Go.Proofs.YtfglfhanikpafaaDoorW.PrintMore Go.Proofs.YtfglfhanikpafaaDoor.Q Go.Proofs.YtfglfhanikpafaaDoor.Rd Go.Proofs.YtfglfhanikpafaaDoor.Pl Go.Proofs.YtfglfhanikpafaaDoor.Bt Go.Proofs.YtfglfhanikpafaaDoor.Sts Go.Proofs.YtfglfhanikpafaaDoor.Q.OfSetsCount

theorem within_or {a b : Nat} : less a b = 0 ↔ a ||| b = b := by
  rw [less_zero]
  constructor
  · intro h
    apply Nat.eq_of_testBit_eq
    intro i
    rw [Nat.testBit_or]
    cases ha : a.testBit i
    · rfl
    · rw [h i ha]; rfl
  · intro h i hi
    rw [← h, Nat.testBit_or, hi]; rfl
theorem SetsCount : Aim := by
  intro a0 a1 a2 h0 h1 h2
  have b0 := bounds_u32 h0
  have b1 := bounds_u32 h1
  have b2 := bounds_u32 h2
  obtain ⟨a, rfl⟩ := Int.eq_ofNat_of_zero_le b0.1
  obtain ⟨b, rfl⟩ := Int.eq_ofNat_of_zero_le b1.1
  obtain ⟨c, rfl⟩ := Int.eq_ofNat_of_zero_le b2.1
  have ha : a < 4294967296 := by omega
  have hb : b < 4294967296 := by omega
  have hc : c < 4294967296 := by omega
  have l1 := ids_length a
  have l2 := ids_length b
  have l3 := ids_length (a ||| b)
  have l4 := ids_length (a &&& b)
  have hor := ids_or_and a b
  refine Ev.rounds (Ev.bind awake ?_)
  refine Ev.congr (f := fun k => alibilaw03_SetsCount.j0 k (a : Int) (b : Int) (c : Int) false) (fun k => ?_) ?_
  · rw [if_pos rfl, count ha, Option.bind_some, count hb, Option.bind_some, or32 ha hb, and32 ha hb, count (or_lt ha hb), Option.bind_some, count (and_lt ha), Option.bind_some, w64 (by omega) (by omega), w64 (by omega) (by omega), if_pos (by omega), within ha hb, Option.bind_some]
    congr 1
    by_cases h : less a b = 0
    · rw [decide_eq_true h, within_or.1 h]; simp
    · have h' : ¬ (a ||| b = b) := fun e => h (within_or.2 e)
      rw [decide_eq_false h]
      have : ((((a ||| b : Nat) : Int)) == (b : Int)) = false := by simpa using (fun e => h' (by omega))
      rw [this]; rfl
  · refine Ev.one (f := fun k => alibilaw03_SetsCount.j1 k (a : Int) (b : Int) false) ?_ fun k => ?_
    · refine Ev.one (Ev.ret fun k => ?_) fun k => alibilaw03_SetsCount.j1.eq_2 _ _ _ _
      rw [if_neg (by decide), within ha hb, Option.bind_some, within hb ha]
      by_cases h : less a b = 0
      · rw [decide_eq_true h, if_pos rfl, Option.bind_some]
        by_cases h' : less b a = 0
        · rw [decide_eq_true h']
          have e : a = b := by
            apply Nat.eq_of_testBit_eq
            intro i
            rw [Bool.eq_iff_iff]
            exact ⟨less_zero.1 h i, less_zero.1 h' i⟩
          subst e; simp
        · rw [decide_eq_false h']
          have : ((a : Int) == (b : Int)) = false := by simp only [beq_eq_false_iff_ne, ne_eq]; intro e; exact h' (by rw [show b = a by omega] at h ⊢; exact h)
          rw [this]; rfl
      · rw [decide_eq_false h, if_neg (by decide)]
        have : ((a : Int) == (b : Int)) = false := by simp only [beq_eq_false_iff_ne, ne_eq]; intro e; exact h (by rw [show b = a by omega]; exact less_zero.2 fun i hi => hi)
        rw [this]; rfl
    · rw [alibilaw03_SetsCount.j0, if_neg (by decide), within ha hb, Option.bind_some]
      by_cases h : less a b = 0
      · rw [decide_eq_true h, if_pos rfl, within hb hc, Option.bind_some]
        by_cases h' : less b c = 0
        · rw [decide_eq_true h', if_pos rfl, within ha hc, Option.bind_some, decide_eq_true (less_zero.2 fun i hi => less_zero.1 h' i (less_zero.1 h i hi))]; rfl
        · rw [decide_eq_false h', if_neg (by decide)]
      · rw [decide_eq_false h, if_neg (by decide)]
end Go.Proofs.YtfglfhanikpafaaDoor.Pure
