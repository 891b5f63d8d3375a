/- The pure statement of SetsMeet: what is in all sets is told bit by bit. No condition. -/
import Derived.Test.YtfglfhanikpafaaDoorQRdSetsMeet
import Derived.Test.YtfglfhanikpafaaDoorSts
namespace Go.Proofs.YtfglfhanikpafaaDoor.Pure
open Go.RowKit Go.Proofs.YtfglfhanikpafaaDoorW.PrintWords Go.Proofs.YtfglfhanikpafaaDoorW.PrintLast Go.Proofs.YtfglfhanikpafaaDoorW.PrintMore Go.Proofs.YtfglfhanikpafaaDoor.Q Go.Proofs.YtfglfhanikpafaaDoor.Rd Go.Proofs.YtfglfhanikpafaaDoor.Pl Go.Proofs.YtfglfhanikpafaaDoor.Bt Go.Proofs.YtfglfhanikpafaaDoor.Sts Go.Proofs.YtfglfhanikpafaaDoor.Q.OfSetsMeet

theorem ints_of (l : List Int) (h : ∀ x ∈ l, (Lit.int .u32 x).wf = true) : ∃ n : List Nat, l = ints n ∧ ∀ x ∈ n, x < 4294967296 := by
  refine ⟨l.map Int.toNat, ?_, ?_⟩
  · unfold ints
    rw [List.map_map]
    refine ((List.map_congr_left (g := id) fun x hx => ?_).trans (List.map_id _)).symm
    have := bounds_u32 (h x hx)
    simp only [Function.comp, id]; omega
  · intro x hx
    obtain ⟨y, hy, rfl⟩ := List.mem_map.1 hx
    have := bounds_u32 (h y hy)
    omega
theorem meet_within (l : List Nat) (a : Nat) (ha : a < 4294967296) : less a (meet l) = 0 ↔ ∀ x ∈ l, less a x = 0 := by
  constructor
  · intro h x hx
    refine less_zero.2 fun i hi => ?_
    have h32 : i < 32 := by
      apply Nat.lt_of_not_le
      intro hle
      rw [tb32 ha hle] at hi; cases hi
    have := less_zero.1 h i hi
    rw [meet_bit l h32] at this
    exact List.all_eq_true.1 this x hx
  · intro h
    refine less_zero.2 fun i hi => ?_
    have h32 : i < 32 := by
      apply Nat.lt_of_not_le
      intro hle
      rw [tb32 ha hle] at hi; cases hi
    rw [meet_bit l h32]
    exact List.all_eq_true.2 fun x hx => less_zero.1 (h x hx) i hi
theorem loop (l : List Nat) (hm : ∀ x ∈ l, x < 4294967296) (hl : l.length ≤ 1000) (a : Nat) (ha : a < 4294967296) (d : Nat) : ∀ (i : Nat) (s : Bool), i + d = l.length → s = decide (∀ x ∈ l.take i, less a x = 0) →
    Ev (fun k => alibilaw03_SetsMeet.l0 k (ints l) (a : Int) ((meet l : Nat) : Int) s (i : Int)) true := by
  have hlen := ints_length l
  have hml := meet_lt l
  induction d with
  | zero =>
    intro i s hd hs
    rw [List.take_of_length_le (by omega)] at hs
    refine Ev.one (Ev.ret fun k => ?_) fun k => alibilaw03_SetsMeet.l0.eq_2 _ _ _ _ _ _
    have e : s = decide (less a (meet l) = 0) := by rw [hs]; exact decide_eq_decide.2 (meet_within l a ha).symm
    rw [if_neg (by omega), within ha hml, Option.bind_some, e, if_pos (by simp)]
    by_cases h : ((ints l).length : Int) > 0
    · rw [if_pos h]
    · have : l = [] := by
        cases l with
        | nil => rfl
        | cons x r => simp [ints] at h
      subst this
      obtain ⟨e32, _⟩ := all (i := 32) (k := 32) (by decide)
      rw [if_neg h, e32]; rfl
  | succ d ih =>
    intro i s hd hs
    have hi : i < l.length := by omega
    have hx := hm _ (List.getElem_mem hi)
    have hw : less (meet l) l[i] = 0 := (meet_within l (meet l) hml).1 (less_zero.2 fun _ h => h) _ (List.getElem_mem hi)
    have IH := ih (i + 1) (s && decide (less a l[i] = 0)) (by omega) (by
      rw [hs, List.take_succ_eq_append_getElem hi, ← Bool.decide_and]
      refine decide_eq_decide.2 ⟨fun ⟨h1, h2⟩ x hx => ?_, fun h => ⟨fun x hx => h x (List.mem_append_left _ hx), h _ (List.mem_append_right _ (List.mem_singleton.2 rfl))⟩⟩
      rcases List.mem_append.1 hx with hx | hx
      · exact h1 x hx
      · rw [List.mem_singleton] at hx; subst hx; exact h2)
    rw [← w64_succ i l.length hi (by omega)] at IH
    refine Ev.one IH fun k => ?_
    rw [alibilaw03_SetsMeet.l0, if_pos (by omega), if_pos (by omega), rd_ints l i hi, within hml hx, Option.bind_some, decide_eq_true hw, if_pos rfl]
    cases s with
    | true => rw [if_pos rfl, within ha hx, Option.bind_some, Bool.true_and]
    | false => rw [if_neg (by decide), Bool.false_and]
theorem SetsMeet : Aim := by
  rintro l' a1 ⟨_, hw⟩ h1
  have b1 := bounds_u32 h1
  obtain ⟨a, rfl⟩ := Int.eq_ofNat_of_zero_le b1.1
  obtain ⟨l, rfl, hm⟩ := ints_of l' hw
  have hlen := ints_length l
  refine Ev.rounds (Ev.bind awake ?_)
  show Ev (fun k => if true = true then alibilaw03_SetsMeet.j0 k (ints l) (a : Int) (decide (((ints l).length : Int) > 300)) else alibilaw03_SetsMeet.j0 k (ints l) (a : Int) true) true
  by_cases h : ((ints l).length : Int) > 300
  · exact Ev.one (f := fun k => (alibilaw03_awake.f k).bind fun t => some t) (Ev.bind awake (Ev.now true)) fun k => by rw [if_pos rfl, alibilaw03_SetsMeet.j0, decide_eq_true h, if_pos rfl]
  · refine Ev.one (Ev.bind (meet_ev l hm (by omega)) (loop l hm (by omega) a (by omega) l.length 0 true (by omega) (by simp))) fun k => by rw [if_pos rfl, alibilaw03_SetsMeet.j0, decide_eq_false h, if_neg (by decide)]
end Go.Proofs.YtfglfhanikpafaaDoor.Pure
