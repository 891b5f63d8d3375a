/- The pure statement of SetsBack: a set's list is read back as that set. No condition. -/
import Derived.Test.YtfglfhanikpafaaDoorQRdSetsBack
import Derived.Test.YtfglfhanikpafaaDoorSts
namespace Go.Proofs.YtfglfhanikpafaaDoor.Pure
open Go.RowKit Go.Proofs.YtfglfhanikpafaaDoorW.PrintWords Go.Proofs.YtfglfhanikpafaaDoorW.PrintLast Go.Proofs.YtfglfhanikpafaaDoorW.PrintMore Go.Proofs.YtfglfhanikpafaaDoor.Q Go.Proofs.YtfglfhanikpafaaDoor.Rd Go.Proofs.YtfglfhanikpafaaDoor.Pl Go.Proofs.YtfglfhanikpafaaDoor.Bt Go.Proofs.YtfglfhanikpafaaDoor.Sts Go.Proofs.YtfglfhanikpafaaDoor.Q.OfSetsBack

theorem chk_ids : ∀ (l : List Nat) (p : Option Int), l.Pairwise (· < ·) → (∀ i ∈ l, i < 32) → (∀ y, p = some y → ∀ i ∈ l, y < (i : Int)) → chk 32 p (ints l) = 0 := by
  intro l
  induction l with
  | nil => intro p _ _ _; rfl
  | cons x r ih =>
    intro p hp hn hy
    rw [List.pairwise_cons] at hp
    have hx := hn x (by simp)
    show chk 32 p ((x : Int) :: ints r) = 0
    unfold chk
    rw [if_neg (by omega), if_neg (fun ⟨y, e, hle⟩ => by have := hy y e x (by simp); omega)]
    exact ih _ hp.2 (fun i hi => hn i (List.mem_cons_of_mem _ hi)) (fun y e i hi => by obtain rfl := Option.some.inj e; have := hp.1 i hi; omega)
theorem toNat_ints (l : List Nat) : (ints l).map Int.toNat = l := by
  unfold ints
  rw [List.map_map]
  exact (List.map_congr_left (g := id) fun x _ => by simp).trans (List.map_id _)
theorem SetsBack : Aim := by
  intro a0 h0
  have b0 := bounds_u32 h0
  obtain ⟨a, rfl⟩ := Int.eq_ofNat_of_zero_le b0.1
  have ha : a < 4294967296 := by omega
  have hl := ids_length a
  have hk : chk 32 none (ints (ids a)) = 0 := chk_ids _ _ (ids_rising a) (fun i hi => (mem_ids.1 hi).1) (fun y e => by cases e)
  have ho := of_ev_ok (ints (ids a)) 32 (by rw [ints_length]; omega) hk
  rw [toNat_ints, pows_ids ha] at ho
  refine Ev.rounds (Ev.bind awake (Ev.congr (fun k => by rw [if_pos rfl]) (Ev.bind (list_ev ha) (Ev.bind ho (Ev.ret fun k => ?_)))))
  obtain ⟨e32, _⟩ := all (i := 32) (k := 32) (by decide)
  rw [if_pos rfl, if_pos rfl, count ha, Option.bind_some, if_pos (by rw [ints_length]), e32, Option.bind_some, within ha (by decide), Option.bind_some, decide_eq_true (less_zero.2 fun i hi => by
    rcases Nat.lt_or_ge i 32 with h | h
    · exact full_bit h
    · rw [tb32 ha h] at hi; cases hi), if_pos rfl]
  by_cases h : a = 0
  · subst h; rw [if_pos (show ((0 : Nat) : Int) = 0 from rfl)]
  · have e := ids_cons h ha
    rw [if_neg (by omega), if_pos (by rw [ints_length, e]; simp), least h ha, Option.bind_some, e]
    simp [ints, rd]
end Go.Proofs.YtfglfhanikpafaaDoor.Pure
