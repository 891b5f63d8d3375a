-- Written by this session's wip/myprint.sh (a variant of the kit's printer); Lean checks it.
import Derived.Test.YtpbbkfekibmaiaaQx0
namespace Go.Proofs.Ytpbbkfekibmaiaa.Q
open Go.RowKit Go.Proofs.YtpbbkfekibmaiaaW.PrintWords Go.Proofs.YtpbbkfekibmaiaaW.PrintLast Go.Proofs.YtpbbkfekibmaiaaW.PrintMore
attribute [local go_sem] max2_int min2_int max_two min_two max_three min_three max_four min_four   -- for this text's walks alone
set_option linter.unusedVariables false
set_option linter.unusedSimpArgs false

/-! ### alibiref05_Calls: function 21 -/
mutual
def alibiref05_Calls.l0 : Nat → Int → List (List Int) → Int → Int → Int → Int → List (List (S35)) → Option ((List (List Int)))
  | 0, _, _, _, _, _, _, _ => none
  | k + 1, x3, x4, x5, x171000, x171001, x171002, x171003 => if x5 < x3 then (if 0 ≤ x3 then (if (x3 : Int).toNat ≤ 35184372088832 then (alibiref05_Calls.l1 k x3 x4 x5 (List.replicate (x3 : Int).toNat 0) 0 x171000 x171001 x171002 x171003) else (none)) else (none)) else (alibiref05_Calls.l2 k x3 x4 0)
def alibiref05_Calls.l1 : Nat → Int → List (List Int) → Int → List Int → Int → Int → Int → Int → List (List (S35)) → Option ((List (List Int)))
  | 0, _, _, _, _, _, _, _, _, _ => none
  | k + 1, x3, x4, x5, x6, x7, x171000, x171001, x171002, x171003 => if 0 ≤ x5 then (if x5 < (x171003.length : Int) then (if x7 < ((rd_L2 x171003 x5).length : Int) then (if 0 ≤ x7 then (if ((rd_T35 (rd_L2 x171003 x5) x7).f0) = 7 then (if 0 ≤ ((rd_T35 (rd_L2 x171003 x5) x7).f1) then (if ((rd_T35 (rd_L2 x171003 x5) x7).f1) < (x6.length : Int) then (alibiref05_Calls.l1 k x3 x4 x5 (x6.set (((rd_T35 (rd_L2 x171003 x5) x7).f1) : Int).toNat 1) (wrap64 (x7 + 1)) x171000 x171001 x171002 x171003) else (none)) else (none)) else (alibiref05_Calls.l1 k x3 x4 x5 x6 (wrap64 (x7 + 1)) x171000 x171001 x171002 x171003)) else (none)) else (if x4.length < 5864062014805 then (alibiref05_Calls.l0 k x3 (x4 ++ [x6]) (wrap64 (x5 + 1)) x171000 x171001 x171002 x171003) else (none))) else (none)) else (none)
def alibiref05_Calls.l2 : Nat → Int → List (List Int) → Int → Option ((List (List Int)))
  | 0, _, _, _ => none
  | k + 1, x3, x4, x8 => if x8 < x3 then (alibiref05_Calls.l3 k x3 x4 x8 0) else (some x4)
def alibiref05_Calls.l3 : Nat → Int → List (List Int) → Int → Int → Option ((List (List Int)))
  | 0, _, _, _, _ => none
  | k + 1, x3, x4, x8, x9 => if x9 < x3 then (alibiref05_Calls.l4 k x3 x4 x8 x9 0) else (alibiref05_Calls.l2 k x3 x4 (wrap64 (x8 + 1)))
def alibiref05_Calls.l4 : Nat → Int → List (List Int) → Int → Int → Int → Option ((List (List Int)))
  | 0, _, _, _, _, _ => none
  | k + 1, x3, x4, x8, x9, x10 => if x10 < x3 then (if 0 ≤ x9 then (if x9 < (x4.length : Int) then (if 0 ≤ x8 then (if x8 < ((rd_L5 x4 x9).length : Int) then (if (rd (rd_L5 x4 x9) x8) = 1 then (if x8 < (x4.length : Int) then (if 0 ≤ x10 then (if x10 < ((rd_L5 x4 x8).length : Int) then (if (rd (rd_L5 x4 x8) x10) = 1 then (if x10 < ((rd_L5 x4 x9).length : Int) then (alibiref05_Calls.l4 k x3 (x4.set (x9 : Int).toNat ((rd_L5 x4 x9).set (x10 : Int).toNat 1)) x8 x9 (wrap64 (x10 + 1))) else (none)) else (alibiref05_Calls.l4 k x3 x4 x8 x9 (wrap64 (x10 + 1)))) else (none)) else (none)) else (none)) else (alibiref05_Calls.l4 k x3 x4 x8 x9 (wrap64 (x10 + 1)))) else (none)) else (none)) else (none)) else (none)) else (alibiref05_Calls.l3 k x3 x4 x8 (wrap64 (x9 + 1)))
end
def alibiref05_Calls.f (k : Nat) (a0_0 : Int) (a0_1 : Int) (a0_2 : Int) (l0_3 : List (List (S35))) : Option ((List (List Int))) := alibiref05_Calls.l0 k (l0_3.length : Int) ([] : List (List Int)) 0 a0_0 a0_1 a0_2 l0_3
theorem alibiref05_Calls.mono_l : ∀ k, (∀ y0 y1 y2 y3 y4 y5 y6, LeO (alibiref05_Calls.l0 k y0 y1 y2 y3 y4 y5 y6) (alibiref05_Calls.l0 (k + 1) y0 y1 y2 y3 y4 y5 y6)) ∧ (∀ y0 y1 y2 y3 y4 y5 y6 y7 y8, LeO (alibiref05_Calls.l1 k y0 y1 y2 y3 y4 y5 y6 y7 y8) (alibiref05_Calls.l1 (k + 1) y0 y1 y2 y3 y4 y5 y6 y7 y8)) ∧ (∀ y0 y1 y2, LeO (alibiref05_Calls.l2 k y0 y1 y2) (alibiref05_Calls.l2 (k + 1) y0 y1 y2)) ∧ (∀ y0 y1 y2 y3, LeO (alibiref05_Calls.l3 k y0 y1 y2 y3) (alibiref05_Calls.l3 (k + 1) y0 y1 y2 y3)) ∧ (∀ y0 y1 y2 y3 y4, LeO (alibiref05_Calls.l4 k y0 y1 y2 y3 y4) (alibiref05_Calls.l4 (k + 1) y0 y1 y2 y3 y4))
  | 0 => ⟨fun _ _ _ _ _ _ _ r h => by simp [alibiref05_Calls.l0] at h, fun _ _ _ _ _ _ _ _ _ r h => by simp [alibiref05_Calls.l1] at h, fun _ _ _ r h => by simp [alibiref05_Calls.l2] at h, fun _ _ _ _ r h => by simp [alibiref05_Calls.l3] at h, fun _ _ _ _ _ r h => by simp [alibiref05_Calls.l4] at h⟩
  | k + 1 => by
    obtain ⟨ih0, ih1, ih2, ih3, ih4⟩ := alibiref05_Calls.mono_l k
    refine ⟨?_, ?_, ?_, ?_, ?_⟩
    · intro y0 y1 y2 y3 y4 y5 y6
      unfold alibiref05_Calls.l0
      repeat' first
      | (with_reducible exact ih0 _ _ _ _ _ _ _)
      | (with_reducible exact ih1 _ _ _ _ _ _ _ _ _)
      | (with_reducible exact ih2 _ _ _)
      | (with_reducible exact ih3 _ _ _ _)
      | (with_reducible exact ih4 _ _ _ _ _)
      | (with_reducible exact LeO.refl _)
      | (with_reducible exact LeO.none _)
      | (with_reducible refine LeO.ite ?_ ?_)
      | (with_reducible refine LeO.bind ?_ (fun _ => ?_))
      | exact ih0 _ _ _ _ _ _ _
      | exact ih1 _ _ _ _ _ _ _ _ _
      | exact ih2 _ _ _
      | exact ih3 _ _ _ _
      | exact ih4 _ _ _ _ _
      | exact LeO.none _
      | refine LeO.ite ?_ ?_
      | refine LeO.bind ?_ (fun _ => ?_)
    · intro y0 y1 y2 y3 y4 y5 y6 y7 y8
      unfold alibiref05_Calls.l1
      repeat' first
      | (with_reducible exact ih0 _ _ _ _ _ _ _)
      | (with_reducible exact ih1 _ _ _ _ _ _ _ _ _)
      | (with_reducible exact ih2 _ _ _)
      | (with_reducible exact ih3 _ _ _ _)
      | (with_reducible exact ih4 _ _ _ _ _)
      | (with_reducible exact LeO.refl _)
      | (with_reducible exact LeO.none _)
      | (with_reducible refine LeO.ite ?_ ?_)
      | (with_reducible refine LeO.bind ?_ (fun _ => ?_))
      | exact ih0 _ _ _ _ _ _ _
      | exact ih1 _ _ _ _ _ _ _ _ _
      | exact ih2 _ _ _
      | exact ih3 _ _ _ _
      | exact ih4 _ _ _ _ _
      | exact LeO.none _
      | refine LeO.ite ?_ ?_
      | refine LeO.bind ?_ (fun _ => ?_)
    · intro y0 y1 y2
      unfold alibiref05_Calls.l2
      repeat' first
      | (with_reducible exact ih0 _ _ _ _ _ _ _)
      | (with_reducible exact ih1 _ _ _ _ _ _ _ _ _)
      | (with_reducible exact ih2 _ _ _)
      | (with_reducible exact ih3 _ _ _ _)
      | (with_reducible exact ih4 _ _ _ _ _)
      | (with_reducible exact LeO.refl _)
      | (with_reducible exact LeO.none _)
      | (with_reducible refine LeO.ite ?_ ?_)
      | (with_reducible refine LeO.bind ?_ (fun _ => ?_))
      | exact ih0 _ _ _ _ _ _ _
      | exact ih1 _ _ _ _ _ _ _ _ _
      | exact ih2 _ _ _
      | exact ih3 _ _ _ _
      | exact ih4 _ _ _ _ _
      | exact LeO.none _
      | refine LeO.ite ?_ ?_
      | refine LeO.bind ?_ (fun _ => ?_)
    · intro y0 y1 y2 y3
      unfold alibiref05_Calls.l3
      repeat' first
      | (with_reducible exact ih0 _ _ _ _ _ _ _)
      | (with_reducible exact ih1 _ _ _ _ _ _ _ _ _)
      | (with_reducible exact ih2 _ _ _)
      | (with_reducible exact ih3 _ _ _ _)
      | (with_reducible exact ih4 _ _ _ _ _)
      | (with_reducible exact LeO.refl _)
      | (with_reducible exact LeO.none _)
      | (with_reducible refine LeO.ite ?_ ?_)
      | (with_reducible refine LeO.bind ?_ (fun _ => ?_))
      | exact ih0 _ _ _ _ _ _ _
      | exact ih1 _ _ _ _ _ _ _ _ _
      | exact ih2 _ _ _
      | exact ih3 _ _ _ _
      | exact ih4 _ _ _ _ _
      | exact LeO.none _
      | refine LeO.ite ?_ ?_
      | refine LeO.bind ?_ (fun _ => ?_)
    · intro y0 y1 y2 y3 y4
      unfold alibiref05_Calls.l4
      repeat' first
      | (with_reducible exact ih0 _ _ _ _ _ _ _)
      | (with_reducible exact ih1 _ _ _ _ _ _ _ _ _)
      | (with_reducible exact ih2 _ _ _)
      | (with_reducible exact ih3 _ _ _ _)
      | (with_reducible exact ih4 _ _ _ _ _)
      | (with_reducible exact LeO.refl _)
      | (with_reducible exact LeO.none _)
      | (with_reducible refine LeO.ite ?_ ?_)
      | (with_reducible refine LeO.bind ?_ (fun _ => ?_))
      | exact ih0 _ _ _ _ _ _ _
      | exact ih1 _ _ _ _ _ _ _ _ _
      | exact ih2 _ _ _
      | exact ih3 _ _ _ _
      | exact ih4 _ _ _ _ _
      | exact LeO.none _
      | refine LeO.ite ?_ ?_
      | refine LeO.bind ?_ (fun _ => ?_)
theorem alibiref05_Calls.mono : ∀ a0 a1 a2 a3 k, LeO (alibiref05_Calls.f k a0 a1 a2 a3) (alibiref05_Calls.f (k + 1) a0 a1 a2 a3) := by
  intro a0 a1 a2 a3 k
  obtain ⟨ih0, ih1, ih2, ih3, ih4⟩ := alibiref05_Calls.mono_l k
  unfold alibiref05_Calls.f
  repeat' first
      | (with_reducible exact ih0 _ _ _ _ _ _ _)
      | (with_reducible exact ih1 _ _ _ _ _ _ _ _ _)
      | (with_reducible exact ih2 _ _ _)
      | (with_reducible exact ih3 _ _ _ _)
      | (with_reducible exact ih4 _ _ _ _ _)
      | (with_reducible exact LeO.refl _)
      | (with_reducible exact LeO.none _)
      | (with_reducible refine LeO.ite ?_ ?_)
      | (with_reducible refine LeO.bind ?_ (fun _ => ?_))
      | exact ih0 _ _ _ _ _ _ _
      | exact ih1 _ _ _ _ _ _ _ _ _
      | exact ih2 _ _ _
      | exact ih3 _ _ _ _
      | exact ih4 _ _ _ _ _
      | exact LeO.none _
      | refine LeO.ite ?_ ?_
      | refine LeO.bind ?_ (fun _ => ?_)
set_option maxHeartbeats 8000000 in
set_option maxRecDepth 100000 in
theorem alibiref05_Calls.calls (k : Nat) (a0_0 : Int) (a0_1 : Int) (a0_2 : Int) (A0_3 : Option Addr) (c0_3 : Nat) (l0_3 : List (List (S35))) (r : List (List Int)) (w : World) (hr0_3 : Kd.C (Kd.slice 35 k35) w A0_3 l0_3.length l0_3) (hc0_3 : l0_3.length ≤ c0_3) (h : alibiref05_Calls.f k a0_0 a0_1 a0_2 l0_3 = some r) :
    Calls Try.prog 21 #[.agg #[.int .i64 a0_0, .int .i64 a0_1, .int .i64 a0_2, .slice A0_3 l0_3.length c0_3]] w fun e w' => ∃ v0_ : Value, e = .returned (v0_) ∧ Kd.S (Kd.slice 3 (Kd.int .i64)) 37 w' w.heap.size (fun _ => True) v0_ r ∧ Below w.heap.size w w' := by
  have hu24 := Try.underlying24
  have HR0_3 := Aside0.mk hr0_3
  have HC0_3 := Aside0.mk hc0_3
  clear hr0_3 hc0_3
  have HB := Aside0.mk (Below.refl w.heap.size w)
  have H : (alibiref05_Calls.l0 k (l0_3.length : Int) ([] : List (List Int)) 0 a0_0 a0_1 a0_2 l0_3) = some r := h
  clear h
  have H' := Aside0.mk H
  clear H
  go_enter Try.func21, Try.ntmps21
  go_wp2_with (first | ((with_reducible refine gate_dst (N := 1) rfl ?_); refine box_event ?hg (N := 1) ?hd (cs := #[.int .i64 a0_0, .int .i64 a0_1, .int .i64 a0_2, .slice A0_3 l0_3.length c0_3]) (t := 24) ?hr ?_; (case hd => rfl); (case hg => rfl); (case hr => first | (go_simp; done) | (go_simp; rfl)); intro gb170 hg w2 hbox hb; have n0_ := Aside0.mk (below_step (by repeat (first | (with_reducible first | exact HB.out | apply below_alloc | apply pw_below_drewN | apply below_drew1) | exact HB.out)) hb); have n1_ := Aside0.mk (hbox); have n2_ := Aside0.mk ((by rw [hg]; exact (below_size (by repeat (first | (with_reducible first | exact HB.out | apply below_alloc | apply pw_below_drewN | apply below_drew1) | exact HB.out))) : w.heap.size ≤ gb170)); have n3_ := Aside0.mk ((by rw [hg]; exact (below_size (by repeat (first | (with_reducible first | exact HB.out | apply below_alloc | apply pw_below_drewN | apply below_drew1) | exact HB.out))) : w.heap.size ≤ gb170)); clear HB; have HB := n0_; have BK170 := n1_; have GW170 := n2_; have GE170 := n3_; clear n0_ n1_ n2_ n3_; clear hb hbox hg; have hcz3_0 : w2.cell? ⟨gb170, 0, none⟩ = some (.int .i64 a0_0) := (blk_cell BK170.out 0).trans rfl; have hcz3_1 : w2.cell? ⟨gb170, 1, none⟩ = some (.int .i64 a0_1) := (blk_cell BK170.out 1).trans rfl; have hcz3_2 : w2.cell? ⟨gb170, 2, none⟩ = some (.int .i64 a0_2) := (blk_cell BK170.out 2).trans rfl; have hcz3_3 : w2.cell? ⟨gb170, 3, none⟩ = some (.slice A0_3 l0_3.length c0_3) := (blk_cell BK170.out 3).trans rfl; have hfz3_0 := blk_frozen BK170.out 0; have hfz3_1 := blk_frozen BK170.out 1; have hfz3_2 := blk_frozen BK170.out 2; have hfz3_3 := blk_frozen BK170.out 3))
  go_loopg [4, 5] k (fun kq v4 v5 w' => ∃ (x4_1 : List (List Int)) (x5_1 : Int), v5 = .int .i64 x5_1 ∧ Aside0 (alibiref05_Calls.l0 kq (l0_3.length : Int) x4_1 x5_1 a0_0 a0_1 a0_2 l0_3 = some r) ∧ Aside0 (kq ≤ k) ∧ Aside0 (Kd.S (Kd.slice 3 (Kd.int .i64)) 37 w' w.heap.size (fun _ => True) v4 x4_1) ∧ Aside0 (w'.heap[gb170]? = some (.cells #[.int .i64 a0_0, .int .i64 a0_1, .int .i64 a0_2, (.slice A0_3 l0_3.length c0_3)] 24 (0, 0))) ∧ Aside0 (Below w.heap.size w w'))
  case atStart => exact ⟨(([] : List (List Int))), (0), (by first | rfl | (simp; done) | (simp [*]; done)), H', ⟨Nat.le_refl _⟩, ⟨by first | exact Kd.S_nil _ _ _ _ _ | exact Kd.N_nil _ _ _ _ _ | exact Kd.V_nil _ _ _ _ _ | exact Kd.Q_nil _ _ _ _ _ | exact Kd.R_nil _ _ _ _ _⟩, ⟨by (with_reducible repeat (first | refine blk_drewN ?_ _ | refine blk_drew ?_ | refine blk_alloc ?_ _)); exact BK170.out⟩, ⟨by repeat (first | (with_reducible first | exact HB.out | apply below_alloc | apply pw_below_drewN | apply below_drew1 | refine below_set ?_ GE170.out) | exact HB.out)⟩⟩
  case round =>
    clear H'
    try clear c2
    try clear p2
    try clear hcz3_0
    try clear hcz3_1
    try clear hcz3_2
    try clear hcz3_3
    try clear hfz3_0
    try clear hfz3_1
    try clear hfz3_2
    try clear hfz3_3
    obtain ⟨x4_1, x5_1, rfl, HA, HK1, HO_4, BK170, HB⟩ := hrel
    cases gk with
    | zero => exact absurd HA.out (by simp [alibiref05_Calls.l0])
    | succ k1 =>
      have H := HA.out
      clear HA
      simp only [alibiref05_Calls.l0] at H
      by_cases c4 : x5_1 < (l0_3.length : Int)
      · rw [if_pos c4] at H
        have c4b0 : decide (x5_1 < (l0_3.length : Int)) = true := decide_eq_true c4
        clear c4
        by_cases c5 : 0 ≤ (l0_3.length : Int)
        · rw [if_pos c5] at H
          have c5b0 := eq_true c5
          have c5b1 : decide (0 ≤ (l0_3.length : Int)) = true := decide_eq_true c5
          clear c5
          by_cases c6 : ((l0_3.length : Int) : Int).toNat ≤ 35184372088832
          · rw [if_pos c6] at H
            have c6b0 := eq_true c6
            have c6b1 : decide (((l0_3.length : Int) : Int).toNat ≤ 35184372088832) = true := decide_eq_true c6
            clear c6
            obtain ⟨y171, hy171⟩ : ∃ y_ : List Int, y_ = (List.replicate ((l0_3.length : Int) : Int).toNat 0) := ⟨_, rfl⟩
            replace H : (alibiref05_Calls.l1 k1 (l0_3.length : Int) x4_1 x5_1 y171 0 a0_0 a0_1 a0_2 l0_3) = some r := by first | (rw [hy171]; with_reducible exact H) | (have H2_ := (Option.bind_some _ _).symm.trans H; rw [hy171]; with_reducible exact H2_) | (have H2_ := (Option.bind_some _ _).symm.trans H; with_reducible exact H2_) | with_reducible exact H | (rw [hy171]; exact H) | exact H
            have Ny171 := Aside0.mk hy171
            clear hy171
            have H' := Aside0.mk H
            clear H
            go_wp2_with (first | ((with_reducible refine gate_dst (N := 20) rfl ?_); refine Kd.R_make (Kd.int .i64) _ 3 rfl (N := 20) rfl 37 _ _ rfl (l0_3.length : Int) rfl rfl Try.underlying37 (.int .i64 0) 8 info3 rfl (by decide) (by omega) 0 (ok := fun _ => True) (okp := fun _ => True) rfl (fun _ hk => hk) trivial (of_decide_eq_true (by first | (with_reducible assumption) | assumption)) (Nat.le_trans (Nat.mul_le_mul_right _ (of_decide_eq_true (by first | (with_reducible assumption) | assumption) : (l0_3.length : Int).toNat ≤ 35184372088832)) (by omega)) (Below.refl _ _) (Nat.le_refl _) ?_; intro v172 w7 ho8 hb hg_ hnew_; clear hg_ hnew_; (first | rw [← Ny171.out] at ho8 | (simp only [Int.reduceToNat] at ho8; rw [← Ny171.out] at ho8)); have n0_ := Aside0.mk (Kd.S_elder' (by (with_reducible repeat (first | apply Kd.S_alloc | apply Kd.S_drewN | apply Kd.S_drew)); exact HO_4.out) (Kd.R_base ho8) hb); have n1_ := Aside0.mk (Kd.R_lower ho8 (below_size (by repeat (first | (with_reducible first | exact HB.out | apply below_alloc | apply pw_below_drewN | apply below_drew1 | refine below_set ?_ GE170.out) | exact HB.out)))); have n2_ := Aside0.mk (blk_below (g := gb170) (o := .cells #[.int .i64 a0_0, .int .i64 a0_1, .int .i64 a0_2, .slice A0_3 l0_3.length c0_3] 24 (0, 0)) (by (with_reducible repeat (first | refine blk_drewN ?_ _ | refine blk_drew ?_ | refine blk_alloc ?_ _)); exact BK170.out) hb); have n3_ := Aside0.mk (below_step (by repeat (first | (with_reducible first | exact HB.out | apply below_alloc | apply pw_below_drewN | apply below_drew1 | refine below_set ?_ GE170.out) | exact HB.out)) hb); clear HO_4; clear BK170; clear HB; have HO_4 := n0_; have HO173 := n1_; have BK170 := n2_; have HB := n3_; clear n0_ n1_ n2_ n3_; clear hb ho8))
            go_loopg [7] k1 (fun kq v7 w' => ∃ (x6_2 : List Int) (x7_2 : Int), v7 = .int .i64 x7_2 ∧ Aside0 (alibiref05_Calls.l1 kq (l0_3.length : Int) x4_1 x5_1 x6_2 x7_2 a0_0 a0_1 a0_2 l0_3 = some r) ∧ Aside0 (kq ≤ k1) ∧ Aside0 (Kd.S (Kd.slice 3 (Kd.int .i64)) 37 w' w.heap.size (fun k_ => some k_ ≠ (v172 : Value).ownBlock) u4 x4_1) ∧ Aside0 (Kd.R (Kd.int .i64) 3 w' w.heap.size (fun _ => True) v172 x6_2) ∧ Aside0 (w'.heap[gb170]? = some (.cells #[.int .i64 a0_0, .int .i64 a0_1, .int .i64 a0_2, (.slice A0_3 l0_3.length c0_3)] 24 (0, 0))) ∧ Aside0 (Below w.heap.size w w'))
            case atStart => exact ⟨(y171), (0), (by first | rfl | (simp; done) | (simp [*]; done)), H', ⟨Nat.le_refl _⟩, ⟨by (with_reducible repeat (first | apply Kd.S_alloc | apply Kd.S_drewN | apply Kd.S_drew)); exact Kd.S_mono HO_4.out (fun _ hk => hk.2)⟩, ⟨by (with_reducible repeat (first | apply Kd.R_alloc | apply Kd.R_drewN | apply Kd.R_drew)); exact HO173.out⟩, ⟨by (with_reducible repeat (first | refine blk_drewN ?_ _ | refine blk_drew ?_ | refine blk_alloc ?_ _)); exact BK170.out⟩, ⟨by repeat (first | (with_reducible first | exact HB.out | apply below_alloc | apply pw_below_drewN | apply below_drew1 | refine below_set ?_ GE170.out) | exact HB.out)⟩⟩
            case round =>
              clear H'
              try clear c2
              try clear p2
              try clear c4
              try clear c4b0
              try clear c5
              try clear c5b0
              try clear c5b1
              try clear c6
              try clear c6b0
              try clear c6b1
              try clear hcz3_0
              try clear hcz3_1
              try clear hcz3_2
              try clear hcz3_3
              try clear hfz3_0
              try clear hfz3_1
              try clear hfz3_2
              try clear hfz3_3
              try clear p2
              obtain ⟨x6_2, x7_2, rfl, HA, HK2, HO_4, HO_6, BK170, HB⟩ := hrel
              cases gk with
              | zero => exact absurd HA.out (by simp [alibiref05_Calls.l1])
              | succ k2 =>
                have H := HA.out
                clear HA
                simp only [alibiref05_Calls.l1] at H
                by_cases c9 : 0 ≤ x5_1
                · rw [if_pos c9] at H
                  have c9b0 : decide (0 ≤ x5_1) = true := decide_eq_true c9
                  clear c9
                  by_cases c10 : x5_1 < (l0_3.length : Int)
                  · rw [if_pos c10] at H
                    have c10b0 : decide (x5_1 < (l0_3.length : Int)) = true := decide_eq_true c10
                    clear c10
                    by_cases c11 : x7_2 < ((rd_L2 l0_3 x5_1).length : Int)
                    · rw [if_pos c11] at H
                      have c11b0 : decide (x7_2 < ((rd_L2 l0_3 x5_1).length : Int)) = true := decide_eq_true c11
                      clear c11
                      by_cases c12 : 0 ≤ x7_2
                      · rw [if_pos c12] at H
                        have c12b0 : decide (0 ≤ x7_2) = true := decide_eq_true c12
                        clear c12
                        by_cases c13 : ((rd_T35 (rd_L2 l0_3 x5_1) x7_2).f0) = 7
                        · rw [if_pos c13] at H
                          have c13b0 : (((rd_T35 (rd_L2 l0_3 x5_1) x7_2).f0) == 7) = true := beq_iff_eq.mpr c13
                          have c13b1 : (((rd_T35 (rd_L2 l0_3 x5_1) x7_2).f0) != 7) = false := bne_eq_false_iff_eq.mpr c13
                          clear c13
                          by_cases c14 : 0 ≤ ((rd_T35 (rd_L2 l0_3 x5_1) x7_2).f1)
                          · rw [if_pos c14] at H
                            have c14b0 : decide (0 ≤ ((rd_T35 (rd_L2 l0_3 x5_1) x7_2).f1)) = true := decide_eq_true c14
                            clear c14
                            by_cases c15 : ((rd_T35 (rd_L2 l0_3 x5_1) x7_2).f1) < (x6_2.length : Int)
                            · rw [if_pos c15] at H
                              have c15b0 : decide (((rd_T35 (rd_L2 l0_3 x5_1) x7_2).f1) < (x6_2.length : Int)) = true := decide_eq_true c15
                              clear c15
                              obtain ⟨y179, hy179⟩ : ∃ y_ : List Int, y_ = (x6_2.set (((rd_T35 (rd_L2 l0_3 x5_1) x7_2).f1) : Int).toNat 1) := ⟨_, rfl⟩
                              replace H : (alibiref05_Calls.l1 k2 (l0_3.length : Int) x4_1 x5_1 y179 (wrap64 (x7_2 + 1)) a0_0 a0_1 a0_2 l0_3) = some r := by first | (rw [hy179]; with_reducible exact H) | (have H2_ := (Option.bind_some _ _).symm.trans H; rw [hy179]; with_reducible exact H2_) | (have H2_ := (Option.bind_some _ _).symm.trans H; with_reducible exact H2_) | with_reducible exact H | (rw [hy179]; exact H) | exact H
                              have Ny179 := Aside0.mk hy179
                              clear hy179
                              have H' := Aside0.mk H
                              clear H
                              have hcz17_0 : wr.cell? ⟨gb170, 0, none⟩ = some (.int .i64 a0_0) := (blk_cell BK170.out 0).trans rfl
                              have hcz17_1 : wr.cell? ⟨gb170, 1, none⟩ = some (.int .i64 a0_1) := (blk_cell BK170.out 1).trans rfl
                              have hcz17_2 : wr.cell? ⟨gb170, 2, none⟩ = some (.int .i64 a0_2) := (blk_cell BK170.out 2).trans rfl
                              have hcz17_3 : wr.cell? ⟨gb170, 3, none⟩ = some (.slice A0_3 l0_3.length c0_3) := (blk_cell BK170.out 3).trans rfl
                              have hfz17_0 := blk_frozen BK170.out 0
                              have hfz17_1 := blk_frozen BK170.out 1
                              have hfz17_2 := blk_frozen BK170.out 2
                              have hfz17_3 := blk_frozen BK170.out 3
                              have p174 : 0 ≤ (x5_1 : Int) := of_decide_eq_true (by first | (with_reducible assumption) | assumption)
                              have q174 : x5_1 < (l0_3.length : Int) := of_decide_eq_true (by first | (with_reducible assumption) | assumption)
                              obtain ⟨ad174, A174_0, c174_0, e174, hx174_0, hl174_0, hi174_0⟩ := at_L2 HR0_3.out x5_1 p174 q174
                              cases e174
                              try replace hx174_0 := (HB.out.cell (World.block_lt_of_cell? w _ hx174_0)).trans hx174_0
                              have HR174_0 := Aside0.mk hi174_0
                              have HC174_0 := Aside0.mk hl174_0
                              clear hi174_0 hl174_0
                              replace p174 := eq_true p174
                              replace q174 := eq_true q174
                              have p175 : 0 ≤ (x5_1 : Int) := of_decide_eq_true (by first | (with_reducible assumption) | assumption)
                              have q175 : x5_1 < (l0_3.length : Int) := of_decide_eq_true (by first | (with_reducible assumption) | assumption)
                              obtain ⟨ad175, A175_0, c175_0, e175, hx175_0, hl175_0, hi175_0⟩ := at_L2 HR0_3.out x5_1 p175 q175
                              obtain rfl : ad174 = ad175 := (by injection e175)
                              try replace hx175_0 := (HB.out.cell (World.block_lt_of_cell? w _ hx175_0)).trans hx175_0
                              have HR175_0 := Aside0.mk hi175_0
                              have HC175_0 := Aside0.mk hl175_0
                              clear hi175_0 hl175_0
                              replace p175 := eq_true p175
                              replace q175 := eq_true q175
                              have ea_ := Option.some.inj (hx174_0.symm.trans hx175_0)
                              injection ea_ with ea_ en_ ec_
                              subst ea_
                              subst ec_
                              clear en_
                              have p176 : 0 ≤ (x7_2 : Int) := of_decide_eq_true (by first | (with_reducible assumption) | assumption)
                              have q176 : x7_2 < ((rd_L2 l0_3 x5_1).length : Int) := of_decide_eq_true (by first | (with_reducible assumption) | assumption)
                              obtain ⟨ad176, e176, hx176_0, hx176_1, hx176_2, hx176_3⟩ := at_T35 HR175_0.out x7_2 p176 q176
                              cases e176
                              try replace hx176_0 := (HB.out.cell (World.block_lt_of_cell? w _ hx176_0)).trans hx176_0
                              try replace hx176_1 := (HB.out.cell (World.block_lt_of_cell? w _ hx176_1)).trans hx176_1
                              try replace hx176_2 := (HB.out.cell (World.block_lt_of_cell? w _ hx176_2)).trans hx176_2
                              try replace hx176_3 := (HB.out.cell (World.block_lt_of_cell? w _ hx176_3)).trans hx176_3
                              replace p176 := eq_true p176
                              replace q176 := eq_true q176
                              have p177 : 0 ≤ (x5_1 : Int) := of_decide_eq_true (by first | (with_reducible assumption) | assumption)
                              have q177 : x5_1 < (l0_3.length : Int) := of_decide_eq_true (by first | (with_reducible assumption) | assumption)
                              obtain ⟨ad177, A177_0, c177_0, e177, hx177_0, hl177_0, hi177_0⟩ := at_L2 HR0_3.out x5_1 p177 q177
                              obtain rfl : ad174 = ad177 := (by injection e177)
                              try replace hx177_0 := (HB.out.cell (World.block_lt_of_cell? w _ hx177_0)).trans hx177_0
                              have HR177_0 := Aside0.mk hi177_0
                              have HC177_0 := Aside0.mk hl177_0
                              clear hi177_0 hl177_0
                              replace p177 := eq_true p177
                              replace q177 := eq_true q177
                              have ea_ := Option.some.inj (hx174_0.symm.trans hx177_0)
                              injection ea_ with ea_ en_ ec_
                              subst ea_
                              subst ec_
                              clear en_
                              have p178 : 0 ≤ (x7_2 : Int) := of_decide_eq_true (by first | (with_reducible assumption) | assumption)
                              have q178 : x7_2 < ((rd_L2 l0_3 x5_1).length : Int) := of_decide_eq_true (by first | (with_reducible assumption) | assumption)
                              obtain ⟨ad178, e178, hx178_0, hx178_1, hx178_2, hx178_3⟩ := at_T35 HR177_0.out x7_2 p178 q178
                              cases e178
                              try replace hx178_0 := (HB.out.cell (World.block_lt_of_cell? w _ hx178_0)).trans hx178_0
                              try replace hx178_1 := (HB.out.cell (World.block_lt_of_cell? w _ hx178_1)).trans hx178_1
                              try replace hx178_2 := (HB.out.cell (World.block_lt_of_cell? w _ hx178_2)).trans hx178_2
                              try replace hx178_3 := (HB.out.cell (World.block_lt_of_cell? w _ hx178_3)).trans hx178_3
                              replace p178 := eq_true p178
                              replace q178 := eq_true q178
                              have p16 : 0 ≤ (((rd_T35 (rd_L2 l0_3 x5_1) x7_2).f1) : Int) := of_decide_eq_true (by first | (with_reducible assumption) | assumption)
                              have q16 : (((rd_T35 (rd_L2 l0_3 x5_1) x7_2).f1) : Int) < ((x6_2.length : Int) : Int) := of_decide_eq_true (by first | (with_reducible assumption) | assumption)
                              obtain ⟨go16, co16, eo16, gb16, gl16, cl16, HG16⟩ := Kd.R_form HO_6.out (by omega)
                              (first | cases eo16 | (injection eo16 with ea_ en_ ec_; (first | subst ea_ | (injection ea_ with ea_; subst ea_)); subst ec_; clear en_))
                              have GB16 := Aside0.mk gb16
                              have GG16 := Aside0.mk HG16
                              clear gb16 gl16 HG16
                              obtain ⟨hx16_0, hf16_0⟩ := Kd.R_celln 0 HO_6.out (((rd_T35 (rd_L2 l0_3 x5_1) x7_2).f1) : Int) p16 q16
                              replace p16 := eq_true p16
                              replace q16 := eq_true q16
                              have HP18 := Kd.R_putg HO_6.out (((rd_T35 (rd_L2 l0_3 x5_1) x7_2).f1) : Int) 1
                              go_wp2_with (first | ((with_reducible refine gate_store (t := 3) (p := 51) rfl ?_); refine store_event (t := 3) (p := 51) (v := ?vo_w19) (w1 := (wr.setCell ⟨go16, (((rd_T35 (rd_L2 l0_3 x5_1) x7_2).f1) : Int).toNat, none⟩ (.int .i64 1))) ?hg ?ho ?hn ?hr ?_; (case ho => rfl); (case hg => rfl); (case hn => rfl); (case hr => first | (go_simp; done) | (go_simp; rfl)); intro w19 hw; have hg : wr.grownBy w19 (some go16) := (by rw [hw]; exact HP18.2); have hp_ : Kd.R (Kd.int .i64) 3 w19 w.heap.size (fun _ => True) (.slice (some ⟨go16, 0, none⟩) x6_2.length co16) y179 := (by rw [hw, Ny179.out]; exact HP18.1); clear HP18; have n0_ := Aside0.mk (Kd.S_after (v := (.slice (some ⟨go16, 0, none⟩) x6_2.length co16)) (v1 := (.slice (some ⟨go16, 0, none⟩) x6_2.length co16)) (ok := (fun _ => True)) (by (with_reducible repeat (first | apply Kd.S_alloc | apply Kd.S_drewN | apply Kd.S_drew)); exact Kd.S_mono HO_4.out (fun _ hk => ⟨trivial, hk⟩)) hg (.inl rfl)); have n1_ := Aside0.mk (hp_); have n2_ := Aside0.mk (blk_grown (g := gb170) (o := .cells #[.int .i64 a0_0, .int .i64 a0_1, .int .i64 a0_2, .slice (some ad174) l0_3.length c0_3] 24 (0, 0)) (by (with_reducible repeat (first | refine blk_drewN ?_ _ | refine blk_drew ?_ | refine blk_alloc ?_ _)); exact BK170.out) hg (Kd.R_ne HO_6.out BK170.out (by decide))); have n3_ := Aside0.mk ((by rw [hw]; exact below_set (HB.out) GB16.out : Below w.heap.size w w19)); clear HO_4; clear HO_6; clear BK170; clear HB; have HO_4 := n0_; have HO_6 := n1_; have BK170 := n2_; have HB := n3_; clear n0_ n1_ n2_ n3_; clear hg hw hp_))
                              go_roundg k2
                              case measure => have := HK1.out; have := HK2.out; omega
                              case rel => exact ⟨(y179), (wrap64 (x7_2 + 1)), (by first | rfl | (simp; done) | (simp [*]; done)), H', ⟨by have := HK1.out; have := HK2.out; omega⟩, ⟨by (with_reducible repeat (first | apply Kd.S_alloc | apply Kd.S_drewN | apply Kd.S_drew)); exact Kd.S_mono HO_4.out (fun _ hk => hk.2)⟩, ⟨by (with_reducible repeat (first | apply Kd.R_alloc | apply Kd.R_drewN | apply Kd.R_drew)); exact HO_6.out⟩, ⟨by (with_reducible repeat (first | refine blk_drewN ?_ _ | refine blk_drew ?_ | refine blk_alloc ?_ _)); exact BK170.out⟩, ⟨by repeat (first | (with_reducible first | exact HB.out | apply below_alloc | apply pw_below_drewN | apply below_drew1 | refine below_set ?_ GE170.out) | exact HB.out)⟩⟩
                            · rw [if_neg c15] at H
                              exact absurd H (by simp)
                          · rw [if_neg c14] at H
                            exact absurd H (by simp)
                        · rw [if_neg c13] at H
                          have c13b0 : (((rd_T35 (rd_L2 l0_3 x5_1) x7_2).f0) == 7) = false := beq_eq_false_iff_ne.mpr c13
                          have c13b1 : (((rd_T35 (rd_L2 l0_3 x5_1) x7_2).f0) != 7) = true := bne_iff_ne.mpr c13
                          have H' := Aside0.mk H
                          clear H
                          have hcz20_0 : wr.cell? ⟨gb170, 0, none⟩ = some (.int .i64 a0_0) := (blk_cell BK170.out 0).trans rfl
                          have hcz20_1 : wr.cell? ⟨gb170, 1, none⟩ = some (.int .i64 a0_1) := (blk_cell BK170.out 1).trans rfl
                          have hcz20_2 : wr.cell? ⟨gb170, 2, none⟩ = some (.int .i64 a0_2) := (blk_cell BK170.out 2).trans rfl
                          have hcz20_3 : wr.cell? ⟨gb170, 3, none⟩ = some (.slice A0_3 l0_3.length c0_3) := (blk_cell BK170.out 3).trans rfl
                          have hfz20_0 := blk_frozen BK170.out 0
                          have hfz20_1 := blk_frozen BK170.out 1
                          have hfz20_2 := blk_frozen BK170.out 2
                          have hfz20_3 := blk_frozen BK170.out 3
                          have p174 : 0 ≤ (x5_1 : Int) := of_decide_eq_true (by first | (with_reducible assumption) | assumption)
                          have q174 : x5_1 < (l0_3.length : Int) := of_decide_eq_true (by first | (with_reducible assumption) | assumption)
                          obtain ⟨ad174, A174_0, c174_0, e174, hx174_0, hl174_0, hi174_0⟩ := at_L2 HR0_3.out x5_1 p174 q174
                          cases e174
                          try replace hx174_0 := (HB.out.cell (World.block_lt_of_cell? w _ hx174_0)).trans hx174_0
                          have HR174_0 := Aside0.mk hi174_0
                          have HC174_0 := Aside0.mk hl174_0
                          clear hi174_0 hl174_0
                          replace p174 := eq_true p174
                          replace q174 := eq_true q174
                          have p175 : 0 ≤ (x5_1 : Int) := of_decide_eq_true (by first | (with_reducible assumption) | assumption)
                          have q175 : x5_1 < (l0_3.length : Int) := of_decide_eq_true (by first | (with_reducible assumption) | assumption)
                          obtain ⟨ad175, A175_0, c175_0, e175, hx175_0, hl175_0, hi175_0⟩ := at_L2 HR0_3.out x5_1 p175 q175
                          obtain rfl : ad174 = ad175 := (by injection e175)
                          try replace hx175_0 := (HB.out.cell (World.block_lt_of_cell? w _ hx175_0)).trans hx175_0
                          have HR175_0 := Aside0.mk hi175_0
                          have HC175_0 := Aside0.mk hl175_0
                          clear hi175_0 hl175_0
                          replace p175 := eq_true p175
                          replace q175 := eq_true q175
                          have ea_ := Option.some.inj (hx174_0.symm.trans hx175_0)
                          injection ea_ with ea_ en_ ec_
                          subst ea_
                          subst ec_
                          clear en_
                          have p176 : 0 ≤ (x7_2 : Int) := of_decide_eq_true (by first | (with_reducible assumption) | assumption)
                          have q176 : x7_2 < ((rd_L2 l0_3 x5_1).length : Int) := of_decide_eq_true (by first | (with_reducible assumption) | assumption)
                          obtain ⟨ad176, e176, hx176_0, hx176_1, hx176_2, hx176_3⟩ := at_T35 HR175_0.out x7_2 p176 q176
                          cases e176
                          try replace hx176_0 := (HB.out.cell (World.block_lt_of_cell? w _ hx176_0)).trans hx176_0
                          try replace hx176_1 := (HB.out.cell (World.block_lt_of_cell? w _ hx176_1)).trans hx176_1
                          try replace hx176_2 := (HB.out.cell (World.block_lt_of_cell? w _ hx176_2)).trans hx176_2
                          try replace hx176_3 := (HB.out.cell (World.block_lt_of_cell? w _ hx176_3)).trans hx176_3
                          replace p176 := eq_true p176
                          replace q176 := eq_true q176
                          go_wp2
                          go_roundg k2
                          case measure => have := HK1.out; have := HK2.out; omega
                          case rel => exact ⟨(x6_2), (wrap64 (x7_2 + 1)), (by first | rfl | (simp; done) | (simp [*]; done)), H', ⟨by have := HK1.out; have := HK2.out; omega⟩, ⟨by (with_reducible repeat (first | apply Kd.S_alloc | apply Kd.S_drewN | apply Kd.S_drew)); exact HO_4.out⟩, ⟨by (with_reducible repeat (first | apply Kd.R_alloc | apply Kd.R_drewN | apply Kd.R_drew)); exact HO_6.out⟩, ⟨by (with_reducible repeat (first | refine blk_drewN ?_ _ | refine blk_drew ?_ | refine blk_alloc ?_ _)); exact BK170.out⟩, ⟨by repeat (first | (with_reducible first | exact HB.out | apply below_alloc | apply pw_below_drewN | apply below_drew1 | refine below_set ?_ GE170.out) | exact HB.out)⟩⟩
                      · rw [if_neg c12] at H
                        exact absurd H (by simp)
                    · rw [if_neg c11] at H
                      have c11b0 : decide (x7_2 < ((rd_L2 l0_3 x5_1).length : Int)) = false := decide_eq_false c11
                      clear c11
                      by_cases c21 : x4_1.length < 5864062014805
                      · rw [if_pos c21] at H
                        have LMc21 := Aside0.mk c21
                        clear c21
                        obtain ⟨y180, hy180⟩ : ∃ y_ : List (List Int), y_ = (x4_1 ++ [x6_2]) := ⟨_, rfl⟩
                        replace H : (alibiref05_Calls.l0 k2 (l0_3.length : Int) y180 (wrap64 (x5_1 + 1)) a0_0 a0_1 a0_2 l0_3) = some r := by first | (rw [hy180]; with_reducible exact H) | (have H2_ := (Option.bind_some _ _).symm.trans H; rw [hy180]; with_reducible exact H2_) | (have H2_ := (Option.bind_some _ _).symm.trans H; with_reducible exact H2_) | with_reducible exact H | (rw [hy180]; exact H) | exact H
                        have Ny180 := Aside0.mk hy180
                        clear hy180
                        have H' := Aside0.mk H
                        clear H
                        have hcz22_0 : wr.cell? ⟨gb170, 0, none⟩ = some (.int .i64 a0_0) := (blk_cell BK170.out 0).trans rfl
                        have hcz22_1 : wr.cell? ⟨gb170, 1, none⟩ = some (.int .i64 a0_1) := (blk_cell BK170.out 1).trans rfl
                        have hcz22_2 : wr.cell? ⟨gb170, 2, none⟩ = some (.int .i64 a0_2) := (blk_cell BK170.out 2).trans rfl
                        have hcz22_3 : wr.cell? ⟨gb170, 3, none⟩ = some (.slice A0_3 l0_3.length c0_3) := (blk_cell BK170.out 3).trans rfl
                        have hfz22_0 := blk_frozen BK170.out 0
                        have hfz22_1 := blk_frozen BK170.out 1
                        have hfz22_2 := blk_frozen BK170.out 2
                        have hfz22_3 := blk_frozen BK170.out 3
                        have p174 : 0 ≤ (x5_1 : Int) := of_decide_eq_true (by first | (with_reducible assumption) | assumption)
                        have q174 : x5_1 < (l0_3.length : Int) := of_decide_eq_true (by first | (with_reducible assumption) | assumption)
                        obtain ⟨ad174, A174_0, c174_0, e174, hx174_0, hl174_0, hi174_0⟩ := at_L2 HR0_3.out x5_1 p174 q174
                        cases e174
                        try replace hx174_0 := (HB.out.cell (World.block_lt_of_cell? w _ hx174_0)).trans hx174_0
                        have HR174_0 := Aside0.mk hi174_0
                        have HC174_0 := Aside0.mk hl174_0
                        clear hi174_0 hl174_0
                        replace p174 := eq_true p174
                        replace q174 := eq_true q174
                        obtain ⟨Ao24, co24, eo24⟩ := Kd.R_slice HO_6.out
                        subst eo24
                        go_wp2_with (first | ((with_reducible refine gate_builtin (b := .append) (xs := #[.tmp 52, .tmp 54]) rfl ?_); at_builtin; refine Kd.S_append (Kd.slice 3 (Kd.int .i64)) (w0 := w) w.heap.size rfl (.tmp 52) (.tmp 54) 45 37 (.slice none 0 0) 24 rfl Try.underlying45 info37 rfl (by decide) (by omega) u4 x4_1 x6_2 [.slice Ao24 x6_2.length co24] (fun _ => True) (fun k_ => some k_ = (.slice Ao24 x6_2.length co24 : Value).ownBlock) rfl rfl ?aP (fun k_ hk_ => ((Kd.R_mono (ok' := fun k_ => ((fun _ => True)) k_ ∧ some k_ ≠ (u4 : Value).ownBlock) (Kd.R_apart' (HO_6.out) (Kd.S_typed HO_4.out) (by decide)) (fun k_ hk => ⟨trivial, hk.2⟩))).1 k_ hk_.symm) ?aF ?aO ?aB ?aS ?aL ?_; (case aP => exact Kd.M_row (Kd.R_mono (Kd.R_tight rfl (Kd.R_mono (ok' := fun k_ => ((fun _ => True)) k_ ∧ some k_ ≠ (u4 : Value).ownBlock) (Kd.R_apart' (HO_6.out) (Kd.S_typed HO_4.out) (by decide)) (fun k_ hk => ⟨trivial, hk.2⟩))) (fun _ h_ => h_))); (case aB => exact (by repeat (first | (with_reducible first | exact HB.out | apply below_alloc | apply pw_below_drewN | apply below_drew1 | refine below_set ?_ GE170.out) | exact HB.out))); (case aF => exact (fun _ _ => trivial)); (case aO => exact (by (with_reducible repeat (first | apply Kd.S_alloc | apply Kd.S_drewN | apply Kd.S_drew)); exact Kd.S_mono HO_4.out (fun k_ hk => ⟨trivial, fun e_ => hk e_⟩))); (case aS => exact (below_size (by repeat (first | (with_reducible first | exact HB.out | apply below_alloc | apply pw_below_drewN | apply below_drew1 | refine below_set ?_ GE170.out) | exact HB.out)))); (case aL => have := LMc21.out; omega); intro v181 w23 ho hb hg hat; rw [← Ny180.out] at ho; have n0_ := Aside0.mk (blk_grown (g := gb170) (o := .cells #[.int .i64 a0_0, .int .i64 a0_1, .int .i64 a0_2, .slice (some ad174) l0_3.length c0_3] 24 (0, 0)) (by (with_reducible repeat (first | refine blk_drewN ?_ _ | refine blk_drew ?_ | refine blk_alloc ?_ _)); exact BK170.out) hg (Kd.S_ne HO_4.out BK170.out (by decide))); have n1_ := Aside0.mk (hb); have n2_ := Aside0.mk (ho); clear BK170; clear HB; clear HO_4; clear HO_6; have BK170 := n0_; have HB := n1_; have HO182 := n2_; clear n0_ n1_ n2_; clear ho hb hg hat))
                        go_roundg k2
                        case measure => have := HK1.out; have := HK2.out; omega
                        case rel => exact ⟨(y180), (wrap64 (x5_1 + 1)), (by first | rfl | (simp; done) | (simp [*]; done)), H', ⟨by have := HK1.out; have := HK2.out; omega⟩, ⟨by (with_reducible repeat (first | apply Kd.S_alloc | apply Kd.S_drewN | apply Kd.S_drew)); exact HO182.out⟩, ⟨by (with_reducible repeat (first | refine blk_drewN ?_ _ | refine blk_drew ?_ | refine blk_alloc ?_ _)); exact BK170.out⟩, ⟨by repeat (first | (with_reducible first | exact HB.out | apply below_alloc | apply pw_below_drewN | apply below_drew1 | refine below_set ?_ GE170.out) | exact HB.out)⟩⟩
                      · rw [if_neg c21] at H
                        exact absurd H (by simp)
                  · rw [if_neg c10] at H
                    exact absurd H (by simp)
                · rw [if_neg c9] at H
                  exact absurd H (by simp)
          · rw [if_neg c6] at H
            exact absurd H (by simp)
        · rw [if_neg c5] at H
          exact absurd H (by simp)
      · rw [if_neg c4] at H
        have c4b0 : decide (x5_1 < (l0_3.length : Int)) = false := decide_eq_false c4
        clear c4
        have H' := Aside0.mk H
        clear H
        go_wp2
        go_loopg [8] k1 (fun kq v8 w' => ∃ (x4_2 : List (List Int)) (x8_2 : Int), v8 = .int .i64 x8_2 ∧ Aside0 (alibiref05_Calls.l2 kq (l0_3.length : Int) x4_2 x8_2 = some r) ∧ Aside0 (kq ≤ k1) ∧ Aside0 (Kd.S (Kd.slice 3 (Kd.int .i64)) 37 w' w.heap.size (fun _ => True) u4 x4_2) ∧ Aside0 (w'.heap[gb170]? = some (.cells #[.int .i64 a0_0, .int .i64 a0_1, .int .i64 a0_2, (.slice A0_3 l0_3.length c0_3)] 24 (0, 0))) ∧ Aside0 (Below w.heap.size w w'))
        case atStart => exact ⟨(x4_1), (0), (by first | rfl | (simp; done) | (simp [*]; done)), H', ⟨Nat.le_refl _⟩, ⟨by (with_reducible repeat (first | apply Kd.S_alloc | apply Kd.S_drewN | apply Kd.S_drew)); exact HO_4.out⟩, ⟨by (with_reducible repeat (first | refine blk_drewN ?_ _ | refine blk_drew ?_ | refine blk_alloc ?_ _)); exact BK170.out⟩, ⟨by repeat (first | (with_reducible first | exact HB.out | apply below_alloc | apply pw_below_drewN | apply below_drew1 | refine below_set ?_ GE170.out) | exact HB.out)⟩⟩
        case round =>
          clear H'
          try clear c1
          try clear p1
          try clear q1
          try clear hx1
          try clear hf1
          try clear c2
          try clear p2
          try clear c4
          try clear c4b0
          try clear c5
          try clear c5b0
          try clear c5b1
          try clear c6
          try clear c6b0
          try clear c6b1
          try clear p6
          try clear c9
          try clear c9b0
          try clear c10
          try clear c10b0
          try clear c11
          try clear c11b0
          try clear c12
          try clear c12b0
          try clear c13
          try clear c13b0
          try clear c13b1
          try clear c14
          try clear c14b0
          try clear c15
          try clear c15b0
          try clear p16
          try clear q16
          try clear hx16
          try clear hf16
          try clear c17
          try clear p17
          try clear q17
          try clear hx17
          try clear c21
          try clear hcz17_0
          try clear hcz17_1
          try clear hcz17_2
          try clear hcz17_3
          try clear hcz20_0
          try clear hcz20_1
          try clear hcz20_2
          try clear hcz20_3
          try clear hcz22_0
          try clear hcz22_1
          try clear hcz22_2
          try clear hcz22_3
          try clear hcz3_0
          try clear hcz3_1
          try clear hcz3_2
          try clear hcz3_3
          try clear hfz17_0
          try clear hfz17_1
          try clear hfz17_2
          try clear hfz17_3
          try clear hfz20_0
          try clear hfz20_1
          try clear hfz20_2
          try clear hfz20_3
          try clear hfz22_0
          try clear hfz22_1
          try clear hfz22_2
          try clear hfz22_3
          try clear hfz3_0
          try clear hfz3_1
          try clear hfz3_2
          try clear hfz3_3
          try clear hx16_0
          try clear hx174_0
          try clear hx175_0
          try clear hx176_0
          try clear hx176_1
          try clear hx176_2
          try clear hx176_3
          try clear hx177_0
          try clear hx178_0
          try clear hx178_1
          try clear hx178_2
          try clear hx178_3
          try clear p16
          try clear p174
          try clear p175
          try clear p176
          try clear p177
          try clear p178
          try clear p2
          try clear q16
          try clear q174
          try clear q175
          try clear q176
          try clear q177
          try clear q178
          obtain ⟨x4_2, x8_2, rfl, HA, HK2, HO_4, BK170, HB⟩ := hrel
          cases gk with
          | zero => exact absurd HA.out (by simp [alibiref05_Calls.l2])
          | succ k2 =>
            have H := HA.out
            clear HA
            simp only [alibiref05_Calls.l2] at H
            by_cases c25 : x8_2 < (l0_3.length : Int)
            · rw [if_pos c25] at H
              have c25b0 : decide (x8_2 < (l0_3.length : Int)) = true := decide_eq_true c25
              clear c25
              have H' := Aside0.mk H
              clear H
              go_wp2
              go_loopg [9] k2 (fun kq v9 w' => ∃ (x4_3 : List (List Int)) (x9_3 : Int), v9 = .int .i64 x9_3 ∧ Aside0 (alibiref05_Calls.l3 kq (l0_3.length : Int) x4_3 x8_2 x9_3 = some r) ∧ Aside0 (kq ≤ k2) ∧ Aside0 (Kd.S (Kd.slice 3 (Kd.int .i64)) 37 w' w.heap.size (fun _ => True) u4 x4_3) ∧ Aside0 (w'.heap[gb170]? = some (.cells #[.int .i64 a0_0, .int .i64 a0_1, .int .i64 a0_2, (.slice A0_3 l0_3.length c0_3)] 24 (0, 0))) ∧ Aside0 (Below w.heap.size w w'))
              case atStart => exact ⟨(x4_2), (0), (by first | rfl | (simp; done) | (simp [*]; done)), H', ⟨Nat.le_refl _⟩, ⟨by (with_reducible repeat (first | apply Kd.S_alloc | apply Kd.S_drewN | apply Kd.S_drew)); exact HO_4.out⟩, ⟨by (with_reducible repeat (first | refine blk_drewN ?_ _ | refine blk_drew ?_ | refine blk_alloc ?_ _)); exact BK170.out⟩, ⟨by repeat (first | (with_reducible first | exact HB.out | apply below_alloc | apply pw_below_drewN | apply below_drew1 | refine below_set ?_ GE170.out) | exact HB.out)⟩⟩
              case round =>
                clear H'
                try clear c1
                try clear p1
                try clear q1
                try clear hx1
                try clear hf1
                try clear c2
                try clear p2
                try clear c4
                try clear c4b0
                try clear c5
                try clear c5b0
                try clear c5b1
                try clear c6
                try clear c6b0
                try clear c6b1
                try clear p6
                try clear c9
                try clear c9b0
                try clear c10
                try clear c10b0
                try clear c11
                try clear c11b0
                try clear c12
                try clear c12b0
                try clear c13
                try clear c13b0
                try clear c13b1
                try clear c14
                try clear c14b0
                try clear c15
                try clear c15b0
                try clear p16
                try clear q16
                try clear hx16
                try clear hf16
                try clear c17
                try clear p17
                try clear q17
                try clear hx17
                try clear c21
                try clear c25
                try clear c25b0
                try clear hcz17_0
                try clear hcz17_1
                try clear hcz17_2
                try clear hcz17_3
                try clear hcz20_0
                try clear hcz20_1
                try clear hcz20_2
                try clear hcz20_3
                try clear hcz22_0
                try clear hcz22_1
                try clear hcz22_2
                try clear hcz22_3
                try clear hcz3_0
                try clear hcz3_1
                try clear hcz3_2
                try clear hcz3_3
                try clear hfz17_0
                try clear hfz17_1
                try clear hfz17_2
                try clear hfz17_3
                try clear hfz20_0
                try clear hfz20_1
                try clear hfz20_2
                try clear hfz20_3
                try clear hfz22_0
                try clear hfz22_1
                try clear hfz22_2
                try clear hfz22_3
                try clear hfz3_0
                try clear hfz3_1
                try clear hfz3_2
                try clear hfz3_3
                try clear hx16_0
                try clear hx174_0
                try clear hx175_0
                try clear hx176_0
                try clear hx176_1
                try clear hx176_2
                try clear hx176_3
                try clear hx177_0
                try clear hx178_0
                try clear hx178_1
                try clear hx178_2
                try clear hx178_3
                try clear p1
                try clear p16
                try clear p17
                try clear p174
                try clear p175
                try clear p176
                try clear p177
                try clear p178
                try clear p2
                try clear p6
                try clear q1
                try clear q16
                try clear q17
                try clear q174
                try clear q175
                try clear q176
                try clear q177
                try clear q178
                obtain ⟨x4_3, x9_3, rfl, HA, HK3, HO_4, BK170, HB⟩ := hrel
                cases gk with
                | zero => exact absurd HA.out (by simp [alibiref05_Calls.l3])
                | succ k3 =>
                  have H := HA.out
                  clear HA
                  simp only [alibiref05_Calls.l3] at H
                  by_cases c26 : x9_3 < (l0_3.length : Int)
                  · rw [if_pos c26] at H
                    have c26b0 : decide (x9_3 < (l0_3.length : Int)) = true := decide_eq_true c26
                    clear c26
                    have H' := Aside0.mk H
                    clear H
                    go_wp2
                    go_loopg [10] k3 (fun kq v10 w' => ∃ (x4_4 : List (List Int)) (x10_4 : Int), v10 = .int .i64 x10_4 ∧ Aside0 (alibiref05_Calls.l4 kq (l0_3.length : Int) x4_4 x8_2 x9_3 x10_4 = some r) ∧ Aside0 (kq ≤ k3) ∧ Aside0 (Kd.S (Kd.slice 3 (Kd.int .i64)) 37 w' w.heap.size (fun _ => True) u4 x4_4) ∧ Aside0 (w'.heap[gb170]? = some (.cells #[.int .i64 a0_0, .int .i64 a0_1, .int .i64 a0_2, (.slice A0_3 l0_3.length c0_3)] 24 (0, 0))) ∧ Aside0 (Below w.heap.size w w'))
                    case atStart => exact ⟨(x4_3), (0), (by first | rfl | (simp; done) | (simp [*]; done)), H', ⟨Nat.le_refl _⟩, ⟨by (with_reducible repeat (first | apply Kd.S_alloc | apply Kd.S_drewN | apply Kd.S_drew)); exact HO_4.out⟩, ⟨by (with_reducible repeat (first | refine blk_drewN ?_ _ | refine blk_drew ?_ | refine blk_alloc ?_ _)); exact BK170.out⟩, ⟨by repeat (first | (with_reducible first | exact HB.out | apply below_alloc | apply pw_below_drewN | apply below_drew1 | refine below_set ?_ GE170.out) | exact HB.out)⟩⟩
                    case round =>
                      clear H'
                      try clear c1
                      try clear p1
                      try clear q1
                      try clear hx1
                      try clear hf1
                      try clear c2
                      try clear p2
                      try clear c4
                      try clear c4b0
                      try clear c5
                      try clear c5b0
                      try clear c5b1
                      try clear c6
                      try clear c6b0
                      try clear c6b1
                      try clear p6
                      try clear c9
                      try clear c9b0
                      try clear c10
                      try clear c10b0
                      try clear c11
                      try clear c11b0
                      try clear c12
                      try clear c12b0
                      try clear c13
                      try clear c13b0
                      try clear c13b1
                      try clear c14
                      try clear c14b0
                      try clear c15
                      try clear c15b0
                      try clear p16
                      try clear q16
                      try clear hx16
                      try clear hf16
                      try clear c17
                      try clear p17
                      try clear q17
                      try clear hx17
                      try clear c21
                      try clear c25
                      try clear c25b0
                      try clear c26
                      try clear c26b0
                      try clear hcz17_0
                      try clear hcz17_1
                      try clear hcz17_2
                      try clear hcz17_3
                      try clear hcz20_0
                      try clear hcz20_1
                      try clear hcz20_2
                      try clear hcz20_3
                      try clear hcz22_0
                      try clear hcz22_1
                      try clear hcz22_2
                      try clear hcz22_3
                      try clear hcz3_0
                      try clear hcz3_1
                      try clear hcz3_2
                      try clear hcz3_3
                      try clear hfz17_0
                      try clear hfz17_1
                      try clear hfz17_2
                      try clear hfz17_3
                      try clear hfz20_0
                      try clear hfz20_1
                      try clear hfz20_2
                      try clear hfz20_3
                      try clear hfz22_0
                      try clear hfz22_1
                      try clear hfz22_2
                      try clear hfz22_3
                      try clear hfz3_0
                      try clear hfz3_1
                      try clear hfz3_2
                      try clear hfz3_3
                      try clear hx16_0
                      try clear hx174_0
                      try clear hx175_0
                      try clear hx176_0
                      try clear hx176_1
                      try clear hx176_2
                      try clear hx176_3
                      try clear hx177_0
                      try clear hx178_0
                      try clear hx178_1
                      try clear hx178_2
                      try clear hx178_3
                      try clear p1
                      try clear p16
                      try clear p17
                      try clear p174
                      try clear p175
                      try clear p176
                      try clear p177
                      try clear p178
                      try clear p2
                      try clear p6
                      try clear q1
                      try clear q16
                      try clear q17
                      try clear q174
                      try clear q175
                      try clear q176
                      try clear q177
                      try clear q178
                      obtain ⟨x4_4, x10_4, rfl, HA, HK4, HO_4, BK170, HB⟩ := hrel
                      cases gk with
                      | zero => exact absurd HA.out (by simp [alibiref05_Calls.l4])
                      | succ k4 =>
                        have H := HA.out
                        clear HA
                        simp only [alibiref05_Calls.l4] at H
                        by_cases c27 : x10_4 < (l0_3.length : Int)
                        · rw [if_pos c27] at H
                          have c27b0 : decide (x10_4 < (l0_3.length : Int)) = true := decide_eq_true c27
                          clear c27
                          by_cases c28 : 0 ≤ x9_3
                          · rw [if_pos c28] at H
                            have c28b0 : decide (0 ≤ x9_3) = true := decide_eq_true c28
                            clear c28
                            by_cases c29 : x9_3 < (x4_4.length : Int)
                            · rw [if_pos c29] at H
                              have c29b0 : decide (x9_3 < (x4_4.length : Int)) = true := decide_eq_true c29
                              clear c29
                              by_cases c30 : 0 ≤ x8_2
                              · rw [if_pos c30] at H
                                have c30b0 : decide (0 ≤ x8_2) = true := decide_eq_true c30
                                clear c30
                                by_cases c31 : x8_2 < ((rd_L5 x4_4 x9_3).length : Int)
                                · rw [if_pos c31] at H
                                  have c31b0 : decide (x8_2 < ((rd_L5 x4_4 x9_3).length : Int)) = true := decide_eq_true c31
                                  clear c31
                                  by_cases c32 : (rd (rd_L5 x4_4 x9_3) x8_2) = 1
                                  · rw [if_pos c32] at H
                                    have c32b0 : ((rd (rd_L5 x4_4 x9_3) x8_2) == 1) = true := beq_iff_eq.mpr c32
                                    have c32b1 : ((rd (rd_L5 x4_4 x9_3) x8_2) != 1) = false := bne_eq_false_iff_eq.mpr c32
                                    clear c32
                                    by_cases c33 : x8_2 < (x4_4.length : Int)
                                    · rw [if_pos c33] at H
                                      have c33b0 : decide (x8_2 < (x4_4.length : Int)) = true := decide_eq_true c33
                                      clear c33
                                      by_cases c34 : 0 ≤ x10_4
                                      · rw [if_pos c34] at H
                                        have c34b0 : decide (0 ≤ x10_4) = true := decide_eq_true c34
                                        clear c34
                                        by_cases c35 : x10_4 < ((rd_L5 x4_4 x8_2).length : Int)
                                        · rw [if_pos c35] at H
                                          have c35b0 : decide (x10_4 < ((rd_L5 x4_4 x8_2).length : Int)) = true := decide_eq_true c35
                                          clear c35
                                          by_cases c36 : (rd (rd_L5 x4_4 x8_2) x10_4) = 1
                                          · rw [if_pos c36] at H
                                            have c36b0 : ((rd (rd_L5 x4_4 x8_2) x10_4) == 1) = true := beq_iff_eq.mpr c36
                                            have c36b1 : ((rd (rd_L5 x4_4 x8_2) x10_4) != 1) = false := bne_eq_false_iff_eq.mpr c36
                                            clear c36
                                            by_cases c37 : x10_4 < ((rd_L5 x4_4 x9_3).length : Int)
                                            · rw [if_pos c37] at H
                                              have c37b0 : decide (x10_4 < ((rd_L5 x4_4 x9_3).length : Int)) = true := decide_eq_true c37
                                              clear c37
                                              obtain ⟨y188, hy188⟩ : ∃ y_ : List Int, y_ = ((rd_L5 x4_4 x9_3).set (x10_4 : Int).toNat 1) := ⟨_, rfl⟩
                                              replace H : (alibiref05_Calls.l4 k4 (l0_3.length : Int) (x4_4.set (x9_3 : Int).toNat y188) x8_2 x9_3 (wrap64 (x10_4 + 1))) = some r := by first | (rw [hy188]; with_reducible exact H) | (have H2_ := (Option.bind_some _ _).symm.trans H; rw [hy188]; with_reducible exact H2_) | (have H2_ := (Option.bind_some _ _).symm.trans H; with_reducible exact H2_) | with_reducible exact H | (rw [hy188]; exact H) | exact H
                                              have Ny188 := Aside0.mk hy188
                                              clear hy188
                                              obtain ⟨y190, hy190⟩ : ∃ y_ : List (List Int), y_ = (x4_4.set (x9_3 : Int).toNat y188) := ⟨_, rfl⟩
                                              replace H : (alibiref05_Calls.l4 k4 (l0_3.length : Int) y190 x8_2 x9_3 (wrap64 (x10_4 + 1))) = some r := by first | (rw [hy190]; with_reducible exact H) | (have H2_ := (Option.bind_some _ _).symm.trans H; rw [hy190]; with_reducible exact H2_) | (have H2_ := (Option.bind_some _ _).symm.trans H; with_reducible exact H2_) | with_reducible exact H | (rw [hy190]; exact H) | exact H
                                              have Ny190 := Aside0.mk hy190
                                              clear hy190
                                              have H' := Aside0.mk H
                                              clear H
                                              obtain ⟨Ao39, co39, eo39⟩ := Kd.S_slice HO_4.out
                                              subst eo39
                                              have p183 : 0 ≤ (x9_3 : Int) := of_decide_eq_true (by first | (with_reducible assumption) | assumption)
                                              have q183 : x9_3 < (x4_4.length : Int) := of_decide_eq_true (by first | (with_reducible assumption) | assumption)
                                              obtain ⟨ad183, A183_0, c183_0, e183, hx183_0, hl183_0, hi183_0⟩ := at_L5 (Kd.S_reads' HO_4.out).2.2 x9_3 p183 q183
                                              cases e183
                                              obtain ⟨ce183, hce183, hMe183, hcc183⟩ := Kd.S_get HO_4.out [] x9_3 p183 (by first | exact q183 | exact of_decide_eq_true (by first | (with_reducible assumption) | assumption) | (have e_ := (Kd.S_reads' HO_4.out).1; omega))
                                              obtain ⟨ve183_0, rfl, ge183_0⟩ := hMe183
                                              have hv183_0 := hcc183 0 _ rfl
                                              rw [Nat.add_zero, show ((Kd.slice 3 (Kd.int .i64))).sz = 1 from rfl, Nat.mul_one] at hv183_0
                                              replace hv183_0 := Option.some.inj (hv183_0.symm.trans hx183_0)
                                              rw [hv183_0] at ge183_0
                                              have HL183_0 := Aside0.mk (show Kd.R (Kd.int .i64) 3 _ _ _ _ (rd_L5 x4_4 x9_3) from ge183_0)
                                              clear hv183_0 ge183_0
                                              have HX183_0 := Aside0.mk hx183_0
                                              clear hcc183 hce183
                                              have HR183_0 := Aside0.mk hi183_0
                                              have HC183_0 := Aside0.mk hl183_0
                                              clear hi183_0 hl183_0
                                              replace p183 := eq_true p183
                                              replace q183 := eq_true q183
                                              have p184 : 0 ≤ (x8_2 : Int) := of_decide_eq_true (by first | (with_reducible assumption) | assumption)
                                              have q184 : x8_2 < ((rd_L5 x4_4 x9_3).length : Int) := of_decide_eq_true (by first | (with_reducible assumption) | assumption)
                                              obtain ⟨ad184, e184, hx184_0⟩ := Kd.at_int (by repeat (first | (with_reducible exact HR183_0.out) | (with_reducible refine Kd.C_alloc ?_ _) | (with_reducible refine Kd.C_drewN ?_ _) | (with_reducible refine Kd.C_drew ?_) | exact HR183_0.out)) x8_2 p184 q184
                                              cases e184
                                              replace p184 := eq_true p184
                                              replace q184 := eq_true q184
                                              have p185 : 0 ≤ (x8_2 : Int) := of_decide_eq_true (by first | (with_reducible assumption) | assumption)
                                              have q185 : x8_2 < (x4_4.length : Int) := of_decide_eq_true (by first | (with_reducible assumption) | assumption)
                                              obtain ⟨ad185, A185_0, c185_0, e185, hx185_0, hl185_0, hi185_0⟩ := at_L5 (Kd.S_reads' HO_4.out).2.2 x8_2 p185 q185
                                              obtain rfl : ad183 = ad185 := (by injection e185)
                                              obtain ⟨ce185, hce185, hMe185, hcc185⟩ := Kd.S_get HO_4.out [] x8_2 p185 (by first | exact q185 | exact of_decide_eq_true (by first | (with_reducible assumption) | assumption) | (have e_ := (Kd.S_reads' HO_4.out).1; omega))
                                              obtain ⟨ve185_0, rfl, ge185_0⟩ := hMe185
                                              have hv185_0 := hcc185 0 _ rfl
                                              rw [Nat.add_zero, show ((Kd.slice 3 (Kd.int .i64))).sz = 1 from rfl, Nat.mul_one] at hv185_0
                                              replace hv185_0 := Option.some.inj (hv185_0.symm.trans hx185_0)
                                              rw [hv185_0] at ge185_0
                                              have HL185_0 := Aside0.mk (show Kd.R (Kd.int .i64) 3 _ _ _ _ (rd_L5 x4_4 x8_2) from ge185_0)
                                              clear hv185_0 ge185_0
                                              have HX185_0 := Aside0.mk hx185_0
                                              clear hcc185 hce185
                                              have HR185_0 := Aside0.mk hi185_0
                                              have HC185_0 := Aside0.mk hl185_0
                                              clear hi185_0 hl185_0
                                              replace p185 := eq_true p185
                                              replace q185 := eq_true q185
                                              have p186 : 0 ≤ (x10_4 : Int) := of_decide_eq_true (by first | (with_reducible assumption) | assumption)
                                              have q186 : x10_4 < ((rd_L5 x4_4 x8_2).length : Int) := of_decide_eq_true (by first | (with_reducible assumption) | assumption)
                                              obtain ⟨ad186, e186, hx186_0⟩ := Kd.at_int (by repeat (first | (with_reducible exact HR185_0.out) | (with_reducible refine Kd.C_alloc ?_ _) | (with_reducible refine Kd.C_drewN ?_ _) | (with_reducible refine Kd.C_drew ?_) | exact HR185_0.out)) x10_4 p186 q186
                                              cases e186
                                              replace p186 := eq_true p186
                                              replace q186 := eq_true q186
                                              have p187 : 0 ≤ (x9_3 : Int) := of_decide_eq_true (by first | (with_reducible assumption) | assumption)
                                              have q187 : x9_3 < (x4_4.length : Int) := of_decide_eq_true (by first | (with_reducible assumption) | assumption)
                                              obtain ⟨ad187, A187_0, c187_0, e187, hx187_0, hl187_0, hi187_0⟩ := at_L5 (Kd.S_reads' HO_4.out).2.2 x9_3 p187 q187
                                              obtain rfl : ad183 = ad187 := (by injection e187)
                                              obtain ⟨ce187, hce187, hMe187, hcc187⟩ := Kd.S_get HO_4.out [] x9_3 p187 (by first | exact q187 | exact of_decide_eq_true (by first | (with_reducible assumption) | assumption) | (have e_ := (Kd.S_reads' HO_4.out).1; omega))
                                              obtain ⟨ve187_0, rfl, ge187_0⟩ := hMe187
                                              have hv187_0 := hcc187 0 _ rfl
                                              rw [Nat.add_zero, show ((Kd.slice 3 (Kd.int .i64))).sz = 1 from rfl, Nat.mul_one] at hv187_0
                                              replace hv187_0 := Option.some.inj (hv187_0.symm.trans hx187_0)
                                              rw [hv187_0] at ge187_0
                                              have HL187_0 := Aside0.mk (show Kd.R (Kd.int .i64) 3 _ _ _ _ (rd_L5 x4_4 x9_3) from ge187_0)
                                              clear hv187_0 ge187_0
                                              have HX187_0 := Aside0.mk hx187_0
                                              clear hcc187 hce187
                                              have HR187_0 := Aside0.mk hi187_0
                                              have HC187_0 := Aside0.mk hl187_0
                                              clear hi187_0 hl187_0
                                              replace p187 := eq_true p187
                                              replace q187 := eq_true q187
                                              have ea_ := Option.some.inj (hx183_0.symm.trans hx187_0)
                                              injection ea_ with ea_ en_ ec_
                                              subst ea_
                                              subst ec_
                                              clear en_
                                              have p38 : 0 ≤ (x10_4 : Int) := of_decide_eq_true (by first | (with_reducible assumption) | assumption)
                                              have q38 : (x10_4 : Int) < (((rd_L5 x4_4 x9_3).length : Int) : Int) := of_decide_eq_true (by first | (with_reducible assumption) | assumption)
                                              obtain ⟨go38, co38, eo38, gb38, gl38, cl38, HG38⟩ := Kd.R_form HL187_0.out (by omega)
                                              (first | cases eo38 | (injection eo38 with ea_ en_ ec_; (first | subst ea_ | (injection ea_ with ea_; subst ea_)); subst ec_; clear en_))
                                              have GB38 := Aside0.mk gb38
                                              have GG38 := Aside0.mk HG38
                                              clear gb38 gl38 HG38
                                              (first | simp only [add_plain] at hx184_0 | skip)
                                              obtain ⟨hx38_0, hf38_0⟩ := Kd.R_celln 0 HL187_0.out (x10_4 : Int) p38 q38
                                              replace p38 := eq_true p38
                                              replace q38 := eq_true q38
                                              have hq40 : (x9_3 : Int) < (x4_4.length : Int) := (by have h_ : (x9_3 : Int) < ((x4_4.length : Int) : Int) := of_decide_eq_true (by first | (with_reducible assumption) | assumption); first | exact h_ | (have e_ := (Kd.S_reads' HO_4.out).1; omega) | simpa only [List.length_set, List.length_set] using h_)
                                              obtain ⟨oki40, ce40, hcl40, hM40, hcc40, hok40, hbk40⟩ := Kd.S_borrow HO_4.out [] (x9_3 : Int) (of_decide_eq_true (by first | (with_reducible assumption) | assumption)) hq40
                                              obtain ⟨ve40_0, rfl, ge40_0⟩ := hM40
                                              have hv40 := hcc40 0 _ rfl
                                              rw [Nat.add_zero, show ((Kd.slice 3 (Kd.int .i64))).sz = 1 from rfl, Nat.mul_one] at hv40
                                              replace hv40 := Option.some.inj (hv40.symm.trans HX187_0.out)
                                              subst hv40
                                              clear hcc40 hcl40
                                              replace ge40_0 := (show Kd.R (Kd.int .i64) 3 _ _ _ _ (rd_L5 x4_4 x9_3) from ge40_0)
                                              have HP40 := Kd.R_putg ge40_0 (x10_4 : Int) 1
                                              go_wp2_with (first | ((with_reducible refine gate_store (t := 3) (p := 94) rfl ?_); refine store_event (t := 3) (p := 94) (v := ?vo_w41) (w1 := (wr.setCell ⟨go38, (x10_4 : Int).toNat, none⟩ (.int .i64 1))) ?hg ?ho ?hn ?hr ?_; (case ho => rfl); (case hg => rfl); (case hn => rfl); (case hr => first | (go_simp; done) | (go_simp; rfl)); intro w41 hw; have hg : wr.grownBy w41 (some go38) := (by rw [hw]; exact HP40.2); have hz_ : Kd.R (Kd.int .i64) 3 w41 w.heap.size oki40 (.slice (some ⟨go38, 0, none⟩) (rd_L5 x4_4 x9_3).length c183_0) y188 := (by rw [hw, Ny188.out]; exact HP40.1); have hp_ : Kd.S (Kd.slice 3 (Kd.int .i64)) 37 w41 w.heap.size (fun _ => True) (.slice (some ad183) x4_4.length co39) y190 := (by rw [Ny190.out]; exact hbk40 hg (fun k_ e_ => by injection e_ with e_; subst e_; exact ge40_0.1 _ rfl) (Kd.M_row hz_)); have hm_ := Kd.R_mono hz_ hok40; clear HP40 hbk40; have n0_ := Aside0.mk (hp_); have n1_ := Aside0.mk (blk_grown (g := gb170) (o := .cells #[.int .i64 a0_0, .int .i64 a0_1, .int .i64 a0_2, .slice A0_3 l0_3.length c0_3] 24 (0, 0)) (by (with_reducible repeat (first | refine blk_drewN ?_ _ | refine blk_drew ?_ | refine blk_alloc ?_ _)); exact BK170.out) hg (Kd.R_ne HL187_0.out BK170.out (by decide))); have n2_ := Aside0.mk ((by rw [hw]; exact below_set (HB.out) GB38.out : Below w.heap.size w w41)); have n3_ := Aside0.mk (hm_); have n4_ := Aside0.mk ((Kd.R_reads' hm_).2.1); clear HO_4; clear BK170; clear HB; clear HL183_0; clear HL185_0; clear HL187_0; have HO_4 := n0_; have BK170 := n1_; have HB := n2_; have HL191 := n3_; have HC189 := n4_; clear n0_ n1_ n2_ n3_ n4_; clear hg hw hp_ hz_ hm_ hok40))
                                              go_roundg k4
                                              case measure => have := HK1.out; have := HK2.out; have := HK3.out; have := HK4.out; omega
                                              case rel => exact ⟨(y190), (wrap64 (x10_4 + 1)), (by first | rfl | (simp; done) | (simp [*]; done)), H', ⟨by have := HK1.out; have := HK2.out; have := HK3.out; have := HK4.out; omega⟩, ⟨by (with_reducible repeat (first | apply Kd.S_alloc | apply Kd.S_drewN | apply Kd.S_drew)); exact HO_4.out⟩, ⟨by (with_reducible repeat (first | refine blk_drewN ?_ _ | refine blk_drew ?_ | refine blk_alloc ?_ _)); exact BK170.out⟩, ⟨by repeat (first | (with_reducible first | exact HB.out | apply below_alloc | apply pw_below_drewN | apply below_drew1 | refine below_set ?_ GE170.out) | exact HB.out)⟩⟩
                                            · rw [if_neg c37] at H
                                              exact absurd H (by simp)
                                          · rw [if_neg c36] at H
                                            have c36b0 : ((rd (rd_L5 x4_4 x8_2) x10_4) == 1) = false := beq_eq_false_iff_ne.mpr c36
                                            have c36b1 : ((rd (rd_L5 x4_4 x8_2) x10_4) != 1) = true := bne_iff_ne.mpr c36
                                            have H' := Aside0.mk H
                                            clear H
                                            obtain ⟨Ao42, co42, eo42⟩ := Kd.S_slice HO_4.out
                                            subst eo42
                                            have p183 : 0 ≤ (x9_3 : Int) := of_decide_eq_true (by first | (with_reducible assumption) | assumption)
                                            have q183 : x9_3 < (x4_4.length : Int) := of_decide_eq_true (by first | (with_reducible assumption) | assumption)
                                            obtain ⟨ad183, A183_0, c183_0, e183, hx183_0, hl183_0, hi183_0⟩ := at_L5 (Kd.S_reads' HO_4.out).2.2 x9_3 p183 q183
                                            cases e183
                                            obtain ⟨ce183, hce183, hMe183, hcc183⟩ := Kd.S_get HO_4.out [] x9_3 p183 (by first | exact q183 | exact of_decide_eq_true (by first | (with_reducible assumption) | assumption) | (have e_ := (Kd.S_reads' HO_4.out).1; omega))
                                            obtain ⟨ve183_0, rfl, ge183_0⟩ := hMe183
                                            have hv183_0 := hcc183 0 _ rfl
                                            rw [Nat.add_zero, show ((Kd.slice 3 (Kd.int .i64))).sz = 1 from rfl, Nat.mul_one] at hv183_0
                                            replace hv183_0 := Option.some.inj (hv183_0.symm.trans hx183_0)
                                            rw [hv183_0] at ge183_0
                                            have HL183_0 := Aside0.mk (show Kd.R (Kd.int .i64) 3 _ _ _ _ (rd_L5 x4_4 x9_3) from ge183_0)
                                            clear hv183_0 ge183_0
                                            have HX183_0 := Aside0.mk hx183_0
                                            clear hcc183 hce183
                                            have HR183_0 := Aside0.mk hi183_0
                                            have HC183_0 := Aside0.mk hl183_0
                                            clear hi183_0 hl183_0
                                            replace p183 := eq_true p183
                                            replace q183 := eq_true q183
                                            have p184 : 0 ≤ (x8_2 : Int) := of_decide_eq_true (by first | (with_reducible assumption) | assumption)
                                            have q184 : x8_2 < ((rd_L5 x4_4 x9_3).length : Int) := of_decide_eq_true (by first | (with_reducible assumption) | assumption)
                                            obtain ⟨ad184, e184, hx184_0⟩ := Kd.at_int (by repeat (first | (with_reducible exact HR183_0.out) | (with_reducible refine Kd.C_alloc ?_ _) | (with_reducible refine Kd.C_drewN ?_ _) | (with_reducible refine Kd.C_drew ?_) | exact HR183_0.out)) x8_2 p184 q184
                                            cases e184
                                            replace p184 := eq_true p184
                                            replace q184 := eq_true q184
                                            have p185 : 0 ≤ (x8_2 : Int) := of_decide_eq_true (by first | (with_reducible assumption) | assumption)
                                            have q185 : x8_2 < (x4_4.length : Int) := of_decide_eq_true (by first | (with_reducible assumption) | assumption)
                                            obtain ⟨ad185, A185_0, c185_0, e185, hx185_0, hl185_0, hi185_0⟩ := at_L5 (Kd.S_reads' HO_4.out).2.2 x8_2 p185 q185
                                            obtain rfl : ad183 = ad185 := (by injection e185)
                                            obtain ⟨ce185, hce185, hMe185, hcc185⟩ := Kd.S_get HO_4.out [] x8_2 p185 (by first | exact q185 | exact of_decide_eq_true (by first | (with_reducible assumption) | assumption) | (have e_ := (Kd.S_reads' HO_4.out).1; omega))
                                            obtain ⟨ve185_0, rfl, ge185_0⟩ := hMe185
                                            have hv185_0 := hcc185 0 _ rfl
                                            rw [Nat.add_zero, show ((Kd.slice 3 (Kd.int .i64))).sz = 1 from rfl, Nat.mul_one] at hv185_0
                                            replace hv185_0 := Option.some.inj (hv185_0.symm.trans hx185_0)
                                            rw [hv185_0] at ge185_0
                                            have HL185_0 := Aside0.mk (show Kd.R (Kd.int .i64) 3 _ _ _ _ (rd_L5 x4_4 x8_2) from ge185_0)
                                            clear hv185_0 ge185_0
                                            have HX185_0 := Aside0.mk hx185_0
                                            clear hcc185 hce185
                                            have HR185_0 := Aside0.mk hi185_0
                                            have HC185_0 := Aside0.mk hl185_0
                                            clear hi185_0 hl185_0
                                            replace p185 := eq_true p185
                                            replace q185 := eq_true q185
                                            have p186 : 0 ≤ (x10_4 : Int) := of_decide_eq_true (by first | (with_reducible assumption) | assumption)
                                            have q186 : x10_4 < ((rd_L5 x4_4 x8_2).length : Int) := of_decide_eq_true (by first | (with_reducible assumption) | assumption)
                                            obtain ⟨ad186, e186, hx186_0⟩ := Kd.at_int (by repeat (first | (with_reducible exact HR185_0.out) | (with_reducible refine Kd.C_alloc ?_ _) | (with_reducible refine Kd.C_drewN ?_ _) | (with_reducible refine Kd.C_drew ?_) | exact HR185_0.out)) x10_4 p186 q186
                                            cases e186
                                            replace p186 := eq_true p186
                                            replace q186 := eq_true q186
                                            go_wp2
                                            go_roundg k4
                                            case measure => have := HK1.out; have := HK2.out; have := HK3.out; have := HK4.out; omega
                                            case rel => exact ⟨(x4_4), (wrap64 (x10_4 + 1)), (by first | rfl | (simp; done) | (simp [*]; done)), H', ⟨by have := HK1.out; have := HK2.out; have := HK3.out; have := HK4.out; omega⟩, ⟨by (with_reducible repeat (first | apply Kd.S_alloc | apply Kd.S_drewN | apply Kd.S_drew)); exact HO_4.out⟩, ⟨by (with_reducible repeat (first | refine blk_drewN ?_ _ | refine blk_drew ?_ | refine blk_alloc ?_ _)); exact BK170.out⟩, ⟨by repeat (first | (with_reducible first | exact HB.out | apply below_alloc | apply pw_below_drewN | apply below_drew1 | refine below_set ?_ GE170.out) | exact HB.out)⟩⟩
                                        · rw [if_neg c35] at H
                                          exact absurd H (by simp)
                                      · rw [if_neg c34] at H
                                        exact absurd H (by simp)
                                    · rw [if_neg c33] at H
                                      exact absurd H (by simp)
                                  · rw [if_neg c32] at H
                                    have c32b0 : ((rd (rd_L5 x4_4 x9_3) x8_2) == 1) = false := beq_eq_false_iff_ne.mpr c32
                                    have c32b1 : ((rd (rd_L5 x4_4 x9_3) x8_2) != 1) = true := bne_iff_ne.mpr c32
                                    have H' := Aside0.mk H
                                    clear H
                                    obtain ⟨Ao43, co43, eo43⟩ := Kd.S_slice HO_4.out
                                    subst eo43
                                    have p183 : 0 ≤ (x9_3 : Int) := of_decide_eq_true (by first | (with_reducible assumption) | assumption)
                                    have q183 : x9_3 < (x4_4.length : Int) := of_decide_eq_true (by first | (with_reducible assumption) | assumption)
                                    obtain ⟨ad183, A183_0, c183_0, e183, hx183_0, hl183_0, hi183_0⟩ := at_L5 (Kd.S_reads' HO_4.out).2.2 x9_3 p183 q183
                                    cases e183
                                    obtain ⟨ce183, hce183, hMe183, hcc183⟩ := Kd.S_get HO_4.out [] x9_3 p183 (by first | exact q183 | exact of_decide_eq_true (by first | (with_reducible assumption) | assumption) | (have e_ := (Kd.S_reads' HO_4.out).1; omega))
                                    obtain ⟨ve183_0, rfl, ge183_0⟩ := hMe183
                                    have hv183_0 := hcc183 0 _ rfl
                                    rw [Nat.add_zero, show ((Kd.slice 3 (Kd.int .i64))).sz = 1 from rfl, Nat.mul_one] at hv183_0
                                    replace hv183_0 := Option.some.inj (hv183_0.symm.trans hx183_0)
                                    rw [hv183_0] at ge183_0
                                    have HL183_0 := Aside0.mk (show Kd.R (Kd.int .i64) 3 _ _ _ _ (rd_L5 x4_4 x9_3) from ge183_0)
                                    clear hv183_0 ge183_0
                                    have HX183_0 := Aside0.mk hx183_0
                                    clear hcc183 hce183
                                    have HR183_0 := Aside0.mk hi183_0
                                    have HC183_0 := Aside0.mk hl183_0
                                    clear hi183_0 hl183_0
                                    replace p183 := eq_true p183
                                    replace q183 := eq_true q183
                                    have p184 : 0 ≤ (x8_2 : Int) := of_decide_eq_true (by first | (with_reducible assumption) | assumption)
                                    have q184 : x8_2 < ((rd_L5 x4_4 x9_3).length : Int) := of_decide_eq_true (by first | (with_reducible assumption) | assumption)
                                    obtain ⟨ad184, e184, hx184_0⟩ := Kd.at_int (by repeat (first | (with_reducible exact HR183_0.out) | (with_reducible refine Kd.C_alloc ?_ _) | (with_reducible refine Kd.C_drewN ?_ _) | (with_reducible refine Kd.C_drew ?_) | exact HR183_0.out)) x8_2 p184 q184
                                    cases e184
                                    replace p184 := eq_true p184
                                    replace q184 := eq_true q184
                                    go_wp2
                                    go_roundg k4
                                    case measure => have := HK1.out; have := HK2.out; have := HK3.out; have := HK4.out; omega
                                    case rel => exact ⟨(x4_4), (wrap64 (x10_4 + 1)), (by first | rfl | (simp; done) | (simp [*]; done)), H', ⟨by have := HK1.out; have := HK2.out; have := HK3.out; have := HK4.out; omega⟩, ⟨by (with_reducible repeat (first | apply Kd.S_alloc | apply Kd.S_drewN | apply Kd.S_drew)); exact HO_4.out⟩, ⟨by (with_reducible repeat (first | refine blk_drewN ?_ _ | refine blk_drew ?_ | refine blk_alloc ?_ _)); exact BK170.out⟩, ⟨by repeat (first | (with_reducible first | exact HB.out | apply below_alloc | apply pw_below_drewN | apply below_drew1 | refine below_set ?_ GE170.out) | exact HB.out)⟩⟩
                                · rw [if_neg c31] at H
                                  exact absurd H (by simp)
                              · rw [if_neg c30] at H
                                exact absurd H (by simp)
                            · rw [if_neg c29] at H
                              exact absurd H (by simp)
                          · rw [if_neg c28] at H
                            exact absurd H (by simp)
                        · rw [if_neg c27] at H
                          have c27b0 : decide (x10_4 < (l0_3.length : Int)) = false := decide_eq_false c27
                          clear c27
                          have H' := Aside0.mk H
                          clear H
                          go_wp2
                          go_roundg k4
                          case measure => have := HK1.out; have := HK2.out; have := HK3.out; have := HK4.out; omega
                          case rel => exact ⟨(x4_4), (wrap64 (x9_3 + 1)), (by first | rfl | (simp; done) | (simp [*]; done)), H', ⟨by have := HK1.out; have := HK2.out; have := HK3.out; have := HK4.out; omega⟩, ⟨by (with_reducible repeat (first | apply Kd.S_alloc | apply Kd.S_drewN | apply Kd.S_drew)); exact HO_4.out⟩, ⟨by (with_reducible repeat (first | refine blk_drewN ?_ _ | refine blk_drew ?_ | refine blk_alloc ?_ _)); exact BK170.out⟩, ⟨by repeat (first | (with_reducible first | exact HB.out | apply below_alloc | apply pw_below_drewN | apply below_drew1 | refine below_set ?_ GE170.out) | exact HB.out)⟩⟩
                  · rw [if_neg c26] at H
                    have c26b0 : decide (x9_3 < (l0_3.length : Int)) = false := decide_eq_false c26
                    clear c26
                    have H' := Aside0.mk H
                    clear H
                    go_wp2
                    go_roundg k3
                    case measure => have := HK1.out; have := HK2.out; have := HK3.out; omega
                    case rel => exact ⟨(x4_3), (wrap64 (x8_2 + 1)), (by first | rfl | (simp; done) | (simp [*]; done)), H', ⟨by have := HK1.out; have := HK2.out; have := HK3.out; omega⟩, ⟨by (with_reducible repeat (first | apply Kd.S_alloc | apply Kd.S_drewN | apply Kd.S_drew)); exact HO_4.out⟩, ⟨by (with_reducible repeat (first | refine blk_drewN ?_ _ | refine blk_drew ?_ | refine blk_alloc ?_ _)); exact BK170.out⟩, ⟨by repeat (first | (with_reducible first | exact HB.out | apply below_alloc | apply pw_below_drewN | apply below_drew1 | refine below_set ?_ GE170.out) | exact HB.out)⟩⟩
            · rw [if_neg c25] at H
              have c25b0 : decide (x8_2 < (l0_3.length : Int)) = false := decide_eq_false c25
              clear c25
              obtain rfl := Option.some.inj H
              go_wp2
              go_ret
              exact ⟨_, by first | rfl | (simp [errW_none, errW_some] <;> rfl) | (simp [*, errW_none, errW_some] <;> rfl), by (with_reducible repeat (first | apply Kd.S_alloc | apply Kd.S_drewN | apply Kd.S_drew)); exact HO_4.out, by repeat (first | (with_reducible first | exact HB.out | apply below_alloc | apply pw_below_drewN | apply below_drew1 | refine below_set ?_ GE170.out) | exact HB.out)⟩

end Go.Proofs.Ytpbbkfekibmaiaa.Q
