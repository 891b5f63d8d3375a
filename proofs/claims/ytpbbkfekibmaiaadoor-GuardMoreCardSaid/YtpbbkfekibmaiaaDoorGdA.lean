/- Package guard: which justification holds for an access, and which may be, told alike. No condition but those of each lemma. -/
import Derived.Test.YtpbbkfekibmaiaaDoorQx5
import Derived.Test.YtpbbkfekibmaiaaDoorSts
import Derived.KernelRfl
import Derived.OpenShut
namespace Go.Proofs.YtpbbkfekibmaiaaDoor.Gd
open Go.RowKit Go.Proofs.YtpbbkfekibmaiaaDoorW.PrintWords Go.Proofs.YtpbbkfekibmaiaaDoorW.PrintLast Go.Proofs.YtpbbkfekibmaiaaDoorW.PrintMore Go.Proofs.YtpbbkfekibmaiaaDoor.Q Go.Proofs.YtpbbkfekibmaiaaDoor.Pl Go.Proofs.YtpbbkfekibmaiaaDoor.Bt Go.Proofs.YtpbbkfekibmaiaaDoor.Sts
/-- Is the id there? -/
def hasB (m : Nat) (i : Int) : Bool := if 0 ≤ i ∧ i < 32 then m.testBit i.toNat else false
theorem has_eq {m : Nat} (hm : m < 4294967296) (i : Int) : sets_Has.f (m : Int) i = some (hasB m i) := by
  unfold hasB
  by_cases h : 0 ≤ i ∧ i < 32
  · obtain ⟨n, rfl⟩ := Int.eq_ofNat_of_zero_le h.1
    rw [if_pos h, Int.toNat_natCast]
    exact has_in hm (by omega)
  · rw [if_neg h]
    exact has_out (by omega)
theorem rhas_ev {m : Nat} (hm : m < 4294967296) (i : Int) : Ev (fun k => alibiref03_Has.f k (m : Int) i) (hasB m i) := by
  unfold hasB
  by_cases h : 0 ≤ i ∧ i < 32
  · obtain ⟨n, rfl⟩ := Int.eq_ofNat_of_zero_le h.1
    rw [if_pos h, Int.toNat_natCast]
    exact rhas_in hm (by omega)
  · rw [if_neg h]
    exact rhas_out (by omega)
/-- Does it hold? -/
def hv (kind lock : Int) (w : Bool) (held live : Nat) : Bool := if live = 0 then true else if kind = 1 then !w else if kind = 2 then hasB held lock else false
theorem holds_eq (kind lock : Int) (w : Bool) {held live : Nat} (hm : held < 4294967296) : guard_Holds.f kind lock w (held : Int) (live : Int) = some (hv kind lock w held live) := by
  unfold guard_Holds.f hv
  by_cases h0 : live = 0
  · rw [if_pos (by omega), if_pos h0]
  · rw [if_neg (by omega), if_neg h0]
    by_cases h1 : kind = 1
    · rw [if_pos h1, if_pos h1]
    · rw [if_neg h1, if_neg h1]
      by_cases h2 : kind = 2
      · rw [if_pos h2, if_pos h2, has_eq hm]; rfl
      · rw [if_neg h2, if_neg h2]
theorem rholds_ev (kind lock : Int) (w : Bool) {held live : Nat} (hm : held < 4294967296) : Ev (fun k => alibiref17_Holds.f k kind lock w (held : Int) (live : Int)) (hv kind lock w held live) := by
  unfold hv
  by_cases h0 : live = 0
  · rw [if_pos h0]
    exact Ev.ret fun k => by rw [alibiref17_Holds.f, if_pos (by omega)]
  · rw [if_neg h0]
    by_cases h1 : kind = 1
    · rw [if_pos h1]
      refine Ev.ret fun k => ?_
      rw [alibiref17_Holds.f, if_neg (by omega), if_pos h1]
      cases w
      · rw [if_neg Bool.false_ne_true]; rfl
      · rw [if_pos rfl, if_neg (by omega)]; rfl
    · rw [if_neg h1]
      by_cases h2 : kind = 2
      · rw [if_pos h2]
        exact Ev.congr (fun k => by rw [alibiref17_Holds.f, if_neg (by omega), if_neg h1, if_pos h2]) (Ev.bind (rhas_ev hm lock) (Ev.now _))
      · rw [if_neg h2]
        exact Ev.ret fun k => by rw [alibiref17_Holds.f, if_neg (by omega), if_neg h1, if_neg h2]
/-- May it be? -/
def rv (kind lock locks : Int) : Bool := decide ((kind = 2 ∧ 0 ≤ lock ∧ lock < locks) ∨ ((kind = 0 ∨ kind = 1) ∧ lock = 0))
theorem right_eq (kind lock locks : Int) : guard_Right.f kind lock locks = some (rv kind lock locks) := by
  unfold guard_Right.f rv
  by_cases h2 : kind = 2
  · rw [if_pos h2]
    by_cases h0 : lock ≥ 0
    · rw [if_pos h0]
      exact congrArg some (decide_eq_decide.2 (by omega))
    · rw [if_neg h0, decide_eq_false (by omega)]
  · rw [if_neg h2]
    by_cases h0 : kind = 0
    · rw [if_pos h0]
      exact congrArg some (by rw [Bool.eq_iff_iff, beq_iff_eq, decide_eq_true_iff]; omega)
    · rw [if_neg h0]
      by_cases h1 : kind = 1
      · rw [if_pos h1]
        exact congrArg some (by rw [Bool.eq_iff_iff, beq_iff_eq, decide_eq_true_iff]; omega)
      · rw [if_neg h1, decide_eq_false (by omega)]
theorem rright_eq (kind lock locks : Int) : alibiref17_Right.f kind lock locks = some (rv kind lock locks) := by
  unfold alibiref17_Right.f rv
  by_cases h2 : kind = 2
  · rw [if_pos h2]
    by_cases h0 : lock ≥ 0
    · rw [if_pos h0]
      exact congrArg some (decide_eq_decide.2 (by omega))
    · rw [if_neg h0, decide_eq_false (by omega)]
  · rw [if_neg h2]
    by_cases h0 : kind ≥ 0
    · rw [if_pos h0]
      by_cases h1 : kind < 2
      · rw [if_pos h1]
        exact congrArg some (by rw [Bool.eq_iff_iff, beq_iff_eq, decide_eq_true_iff]; omega)
      · rw [if_neg h1, decide_eq_false (by omega)]
    · rw [if_neg h0, decide_eq_false (by omega)]
/-- With more held and fewer alive it still holds; what holds for a Write holds for a Read. -/
theorem hv_more {kind lock : Int} {w : Bool} {held live more fewer : Nat} (h : hv kind lock w held live = true) : hv kind lock w (held ||| more) (live &&& fewer) = true ∧ hv kind lock false held live = true := by
  unfold hv at *
  by_cases h0 : live = 0
  · rw [if_pos h0, if_pos (by rw [h0, Nat.zero_and])]; exact ⟨rfl, rfl⟩
  · rw [if_neg h0] at h ⊢
    by_cases h1 : kind = 1
    · rw [if_pos h1] at h ⊢
      refine ⟨?_, by rw [if_pos h1]; rfl⟩
      rw [h]; split <;> rfl
    · rw [if_neg h1] at h ⊢
      by_cases h2 : kind = 2
      · rw [if_pos h2] at h ⊢
        refine ⟨?_, by rw [if_neg h1, if_pos h2]; exact h⟩
        split
        · rfl
        · unfold hasB at *
          by_cases hb : 0 ≤ lock ∧ lock < 32
          · rw [if_pos hb] at h ⊢
            rw [Nat.testBit_or, h]; rfl
          · rw [if_neg hb] at h; cases h
      · rw [if_neg h2] at h; cases h
theorem u32_nat {n : Int} (h : (Lit.int .u32 n).wf = true) : ∃ m : Nat, n = (m : Int) ∧ m < 4294967296 := by
  have hb := bounds_u32 h
  obtain ⟨m, hm⟩ := Int.eq_ofNat_of_zero_le hb.1
  exact ⟨m, hm, by omega⟩
theorem awake : Ev (fun k => alibilaw17_awake.f k) true := by
  refine ⟨60, fun k hk => ?_⟩
  obtain ⟨j, rfl⟩ := Nat.exists_eq_add_of_le hk
  rw [Nat.add_comm]
  kernel_rfl
end Go.Proofs.YtpbbkfekibmaiaaDoor.Gd
