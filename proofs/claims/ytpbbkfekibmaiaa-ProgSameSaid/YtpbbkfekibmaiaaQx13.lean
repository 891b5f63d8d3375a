-- Written by this session's wip/myprint.sh (a variant of the kit's printer); Lean checks it.
import Derived.Test.YtpbbkfekibmaiaaQx0
import Derived.Test.YtpbbkfekibmaiaaQx1
namespace Go.Proofs.Ytpbbkfekibmaiaa.Q
open Go.RowKit Go.Proofs.YtpbbkfekibmaiaaW.PrintWords Go.Proofs.YtpbbkfekibmaiaaW.PrintLast Go.Proofs.YtpbbkfekibmaiaaW.PrintMore
attribute [local go_sem] max2_int min2_int max_two min_two max_three min_three max_four min_four   -- for this text's walks alone
set_option linter.unusedVariables false
set_option linter.unusedSimpArgs false

attribute [local go_sem high] eqA35
/-! ### prog_Same: function 18 -/
mutual
def prog_Same.j0 : Nat → Bool → Int → Int → Int → List (List (S35)) → Int → Int → Int → List (List (S35)) → Option (Bool)
  | 0, _, _, _, _, _, _, _, _, _ => none
  | k + 1, x36, x290000, x290001, x290002, x290003, x291000, x291001, x291002, x291003 => if x36 = true then (some false) else (prog_Same.l0 k x290003 (x290003.length : Int) 0 x291000 x291001 x291002 x291003)
def prog_Same.l0 : Nat → List (List (S35)) → Int → Int → Int → Int → Int → List (List (S35)) → Option (Bool)
  | 0, _, _, _, _, _, _, _ => none
  | k + 1, x38, x39, x40, x291000, x291001, x291002, x291003 => if x40 < x39 then (if 0 ≤ x40 then (if x40 < (x38.length : Int) then (if x40 < (x291003.length : Int) then (if ((rd_L2 x38 x40).length : Int) = ((rd_L2 x291003 x40).length : Int) then (prog_Same.l1 k x40 x38 x39 x40 (rd_L2 x38 x40) ((rd_L2 x38 x40).length : Int) 0 x291000 x291001 x291002 x291003) else (some false)) else (none)) else (none)) else (none)) else (some true)
def prog_Same.l1 : Nat → Int → List (List (S35)) → Int → Int → List (S35) → Int → Int → Int → Int → Int → List (List (S35)) → Option (Bool)
  | 0, _, _, _, _, _, _, _, _, _, _, _ => none
  | k + 1, x5, x38, x39, x40, x54, x55, x56, x291000, x291001, x291002, x291003 => if x56 < x55 then (if 0 ≤ x56 then (if x56 < (x54.length : Int) then (if 0 ≤ x5 then (if x5 < (x291003.length : Int) then (if x56 < ((rd_L2 x291003 x5).length : Int) then (if (!(((rd_T35 x54 x56).f0) == ((rd_T35 (rd_L2 x291003 x5) x56).f0)) || (!(((rd_T35 x54 x56).f1) == ((rd_T35 (rd_L2 x291003 x5) x56).f1)) || (!(((rd_T35 x54 x56).f2) == ((rd_T35 (rd_L2 x291003 x5) x56).f2)) || (!(((rd_T35 x54 x56).f3) == ((rd_T35 (rd_L2 x291003 x5) x56).f3)))))) = true then (some false) else (prog_Same.l1 k x5 x38 x39 x40 x54 x55 (wrap64 (x56 + 1)) x291000 x291001 x291002 x291003)) else (none)) else (none)) else (none)) else (none)) else (none)) else (prog_Same.l0 k x38 x39 (wrap64 (x40 + 1)) x291000 x291001 x291002 x291003)
end
def prog_Same.f (k : Nat) (a0_0 : Int) (a0_1 : Int) (a0_2 : Int) (l0_3 : List (List (S35))) (a1_0 : Int) (a1_1 : Int) (a1_2 : Int) (l1_3 : List (List (S35))) : Option (Bool) := if a0_0 = a1_0 then (if a0_1 = a1_1 then (if a0_2 = a1_2 then (prog_Same.j0 k ((l0_3.length : Int) != (l1_3.length : Int)) a0_0 a0_1 a0_2 l0_3 a1_0 a1_1 a1_2 l1_3) else (prog_Same.j0 k true a0_0 a0_1 a0_2 l0_3 a1_0 a1_1 a1_2 l1_3)) else (prog_Same.j0 k true a0_0 a0_1 a0_2 l0_3 a1_0 a1_1 a1_2 l1_3)) else (prog_Same.j0 k true a0_0 a0_1 a0_2 l0_3 a1_0 a1_1 a1_2 l1_3)
theorem prog_Same.mono_l : ∀ k, (∀ y0 y1 y2 y3 y4 y5 y6 y7 y8, LeO (prog_Same.j0 k y0 y1 y2 y3 y4 y5 y6 y7 y8) (prog_Same.j0 (k + 1) y0 y1 y2 y3 y4 y5 y6 y7 y8)) ∧ (∀ y0 y1 y2 y3 y4 y5 y6, LeO (prog_Same.l0 k y0 y1 y2 y3 y4 y5 y6) (prog_Same.l0 (k + 1) y0 y1 y2 y3 y4 y5 y6)) ∧ (∀ y0 y1 y2 y3 y4 y5 y6 y7 y8 y9 y10, LeO (prog_Same.l1 k y0 y1 y2 y3 y4 y5 y6 y7 y8 y9 y10) (prog_Same.l1 (k + 1) y0 y1 y2 y3 y4 y5 y6 y7 y8 y9 y10))
  | 0 => ⟨fun _ _ _ _ _ _ _ _ _ r h => by simp [prog_Same.j0] at h, fun _ _ _ _ _ _ _ r h => by simp [prog_Same.l0] at h, fun _ _ _ _ _ _ _ _ _ _ _ r h => by simp [prog_Same.l1] at h⟩
  | k + 1 => by
    obtain ⟨ih0, ih1, ih2⟩ := prog_Same.mono_l k
    refine ⟨?_, ?_, ?_⟩
    · intro y0 y1 y2 y3 y4 y5 y6 y7 y8
      unfold prog_Same.j0
      repeat' first
      | (with_reducible exact ih0 _ _ _ _ _ _ _ _ _)
      | (with_reducible exact ih1 _ _ _ _ _ _ _)
      | (with_reducible exact ih2 _ _ _ _ _ _ _ _ _ _ _)
      | (with_reducible exact LeO.refl _)
      | (with_reducible exact LeO.none _)
      | (with_reducible refine LeO.ite ?_ ?_)
      | (with_reducible refine LeO.bind ?_ (fun _ => ?_))
      | exact ih0 _ _ _ _ _ _ _ _ _
      | exact ih1 _ _ _ _ _ _ _
      | exact ih2 _ _ _ _ _ _ _ _ _ _ _
      | exact LeO.none _
      | refine LeO.ite ?_ ?_
      | refine LeO.bind ?_ (fun _ => ?_)
    · intro y0 y1 y2 y3 y4 y5 y6
      unfold prog_Same.l0
      repeat' first
      | (with_reducible exact ih0 _ _ _ _ _ _ _ _ _)
      | (with_reducible exact ih1 _ _ _ _ _ _ _)
      | (with_reducible exact ih2 _ _ _ _ _ _ _ _ _ _ _)
      | (with_reducible exact LeO.refl _)
      | (with_reducible exact LeO.none _)
      | (with_reducible refine LeO.ite ?_ ?_)
      | (with_reducible refine LeO.bind ?_ (fun _ => ?_))
      | exact ih0 _ _ _ _ _ _ _ _ _
      | exact ih1 _ _ _ _ _ _ _
      | exact ih2 _ _ _ _ _ _ _ _ _ _ _
      | exact LeO.none _
      | refine LeO.ite ?_ ?_
      | refine LeO.bind ?_ (fun _ => ?_)
    · intro y0 y1 y2 y3 y4 y5 y6 y7 y8 y9 y10
      unfold prog_Same.l1
      repeat' first
      | (with_reducible exact ih0 _ _ _ _ _ _ _ _ _)
      | (with_reducible exact ih1 _ _ _ _ _ _ _)
      | (with_reducible exact ih2 _ _ _ _ _ _ _ _ _ _ _)
      | (with_reducible exact LeO.refl _)
      | (with_reducible exact LeO.none _)
      | (with_reducible refine LeO.ite ?_ ?_)
      | (with_reducible refine LeO.bind ?_ (fun _ => ?_))
      | exact ih0 _ _ _ _ _ _ _ _ _
      | exact ih1 _ _ _ _ _ _ _
      | exact ih2 _ _ _ _ _ _ _ _ _ _ _
      | exact LeO.none _
      | refine LeO.ite ?_ ?_
      | refine LeO.bind ?_ (fun _ => ?_)
theorem prog_Same.mono : ∀ a0 a1 a2 a3 a4 a5 a6 a7 k, LeO (prog_Same.f k a0 a1 a2 a3 a4 a5 a6 a7) (prog_Same.f (k + 1) a0 a1 a2 a3 a4 a5 a6 a7) := by
  intro a0 a1 a2 a3 a4 a5 a6 a7 k
  obtain ⟨ih0, ih1, ih2⟩ := prog_Same.mono_l k
  unfold prog_Same.f
  repeat' first
      | (with_reducible exact ih0 _ _ _ _ _ _ _ _ _)
      | (with_reducible exact ih1 _ _ _ _ _ _ _)
      | (with_reducible exact ih2 _ _ _ _ _ _ _ _ _ _ _)
      | (with_reducible exact LeO.refl _)
      | (with_reducible exact LeO.none _)
      | (with_reducible refine LeO.ite ?_ ?_)
      | (with_reducible refine LeO.bind ?_ (fun _ => ?_))
      | exact ih0 _ _ _ _ _ _ _ _ _
      | exact ih1 _ _ _ _ _ _ _
      | exact ih2 _ _ _ _ _ _ _ _ _ _ _
      | exact LeO.none _
      | refine LeO.ite ?_ ?_
      | refine LeO.bind ?_ (fun _ => ?_)
set_option maxHeartbeats 8000000 in
set_option maxRecDepth 100000 in
theorem prog_Same.calls (k : Nat) (a0_0 : Int) (a0_1 : Int) (a0_2 : Int) (A0_3 : Option Addr) (c0_3 : Nat) (l0_3 : List (List (S35))) (a1_0 : Int) (a1_1 : Int) (a1_2 : Int) (A1_3 : Option Addr) (c1_3 : Nat) (l1_3 : List (List (S35))) (r : Bool) (w : World) (hr0_3 : Kd.C (Kd.slice 35 k35) w A0_3 l0_3.length l0_3) (hc0_3 : l0_3.length ≤ c0_3) (hr1_3 : Kd.C (Kd.slice 35 k35) w A1_3 l1_3.length l1_3) (hc1_3 : l1_3.length ≤ c1_3) (h : prog_Same.f k a0_0 a0_1 a0_2 l0_3 a1_0 a1_1 a1_2 l1_3 = some r) :
    Calls Try.prog 18 #[.agg #[.int .i64 a0_0, .int .i64 a0_1, .int .i64 a0_2, .slice A0_3 l0_3.length c0_3], .agg #[.int .i64 a1_0, .int .i64 a1_1, .int .i64 a1_2, .slice A1_3 l1_3.length c1_3]] w fun e w' => e = .returned (.bool r) ∧ Below w.heap.size w w' := by
  have hu24 := Try.underlying24
  have hu35 := Try.underlying35
  have HR0_3 := Aside0.mk hr0_3
  have HC0_3 := Aside0.mk hc0_3
  clear hr0_3 hc0_3
  have HR1_3 := Aside0.mk hr1_3
  have HC1_3 := Aside0.mk hc1_3
  clear hr1_3 hc1_3
  have HB := Aside0.mk (Below.refl w.heap.size w)
  have H : (if a0_0 = a1_0 then (if a0_1 = a1_1 then (if a0_2 = a1_2 then (prog_Same.j0 k ((l0_3.length : Int) != (l1_3.length : Int)) a0_0 a0_1 a0_2 l0_3 a1_0 a1_1 a1_2 l1_3) else (prog_Same.j0 k true a0_0 a0_1 a0_2 l0_3 a1_0 a1_1 a1_2 l1_3)) else (prog_Same.j0 k true a0_0 a0_1 a0_2 l0_3 a1_0 a1_1 a1_2 l1_3)) else (prog_Same.j0 k true a0_0 a0_1 a0_2 l0_3 a1_0 a1_1 a1_2 l1_3)) = some r := h
  clear h
  have HC3 := Aside0.mk H
  clear H
  go_enter Try.func18, Try.ntmps18
  go_upto_region 1 with (first | ((with_reducible refine gate_dst (N := 2) rfl ?_); (try (refine gate_guard (by rfl) ?_; dsimp only)); refine box_event ?hg (N := 2) ?hd (cs := #[.int .i64 a0_0, .int .i64 a0_1, .int .i64 a0_2, .slice A0_3 l0_3.length c0_3]) (t := 24) ?hr ?_; (case hd => rfl); (case hg => rfl); (case hr => first | (go_simp; done) | (go_simp; rfl)); intro gb289 hg w4 hbox hb; have n0_ := Aside0.mk (below_step (by repeat (first | (with_reducible first | exact HB.out | apply below_alloc | apply pw_below_drewN | apply below_drew1) | exact HB.out)) hb); have n1_ := Aside0.mk (hbox); have n2_ := Aside0.mk ((by rw [hg]; exact (below_size (by repeat (first | (with_reducible first | exact HB.out | apply below_alloc | apply pw_below_drewN | apply below_drew1) | exact HB.out))) : w.heap.size ≤ gb289)); have n3_ := Aside0.mk ((by rw [hg]; exact (below_size (by repeat (first | (with_reducible first | exact HB.out | apply below_alloc | apply pw_below_drewN | apply below_drew1) | exact HB.out))) : w.heap.size ≤ gb289)); clear HB; have HB := n0_; have BK289 := n1_; have GW289 := n2_; have GE289 := n3_; clear n0_ n1_ n2_ n3_; clear hb hbox hg) | ((with_reducible refine gate_dst (N := 3) rfl ?_); (try (refine gate_guard (by rfl) ?_; dsimp only)); refine box_event ?hg (N := 3) ?hd (cs := #[.int .i64 a1_0, .int .i64 a1_1, .int .i64 a1_2, .slice A1_3 l1_3.length c1_3]) (t := 24) ?hr ?_; (case hd => rfl); (case hg => rfl); (case hr => first | (go_simp; done) | (go_simp; rfl)); intro gb290 hg w5 hbox hb; have n0_ := Aside0.mk (blk_below (g := gb289) (o := .cells #[.int .i64 a0_0, .int .i64 a0_1, .int .i64 a0_2, .slice A0_3 l0_3.length c0_3] 24 (0, 0)) (by (with_reducible repeat (first | refine blk_drewN ?_ _ | refine blk_drew ?_ | refine blk_alloc ?_ _)); exact BK289.out) hb); have n1_ := Aside0.mk (below_step (by repeat (first | (with_reducible first | exact HB.out | apply below_alloc | apply pw_below_drewN | apply below_drew1 | refine below_set ?_ GE289.out) | exact HB.out)) hb); have n2_ := Aside0.mk (hbox); have n3_ := Aside0.mk ((by rw [hg]; exact (below_size (by repeat (first | (with_reducible first | exact HB.out | apply below_alloc | apply pw_below_drewN | apply below_drew1 | refine below_set ?_ GE289.out) | exact HB.out))) : w.heap.size ≤ gb290)); have n4_ := Aside0.mk ((by rw [hg]; exact (below_size (by repeat (first | (with_reducible first | exact HB.out | apply below_alloc | apply pw_below_drewN | apply below_drew1 | refine below_set ?_ GE289.out) | exact HB.out))) : w.heap.size ≤ gb290)); have n5_ := Aside0.mk ((by rw [hg]; exact Nat.ne_of_lt (blk_lt (g := gb289) (o := .cells #[.int .i64 a0_0, .int .i64 a0_1, .int .i64 a0_2, .slice A0_3 l0_3.length c0_3] 24 (0, 0)) (by (with_reducible repeat (first | refine blk_drewN ?_ _ | refine blk_drew ?_ | refine blk_alloc ?_ _)); exact BK289.out)) : gb289 ≠ gb290)); have n6_ := Aside0.mk ((by rw [hg]; exact Nat.ne_of_gt (blk_lt (g := gb289) (o := .cells #[.int .i64 a0_0, .int .i64 a0_1, .int .i64 a0_2, .slice A0_3 l0_3.length c0_3] 24 (0, 0)) (by (with_reducible repeat (first | refine blk_drewN ?_ _ | refine blk_drew ?_ | refine blk_alloc ?_ _)); exact BK289.out)) : gb290 ≠ gb289)); clear BK289; clear HB; have BK289 := n0_; have HB := n1_; have BK290 := n2_; have GW290 := n3_; have GE290 := n4_; have NB289_290 := n5_; have NB290_289 := n6_; clear n0_ n1_ n2_ n3_ n4_ n5_ n6_; clear hb hbox hg))
  repeat (go_quiet (first | ((with_reducible refine gate_dst (N := 2) rfl ?_); (try (refine gate_guard (by rfl) ?_; dsimp only)); refine box_event ?hg (N := 2) ?hd (cs := #[.int .i64 a0_0, .int .i64 a0_1, .int .i64 a0_2, .slice A0_3 l0_3.length c0_3]) (t := 24) ?hr ?_; (case hd => rfl); (case hg => rfl); (case hr => first | (go_simp; done) | (go_simp; rfl)); intro gb289 hg w4 hbox hb; have n0_ := Aside0.mk (below_step (by repeat (first | (with_reducible first | exact HB.out | apply below_alloc | apply pw_below_drewN | apply below_drew1) | exact HB.out)) hb); have n1_ := Aside0.mk (hbox); have n2_ := Aside0.mk ((by rw [hg]; exact (below_size (by repeat (first | (with_reducible first | exact HB.out | apply below_alloc | apply pw_below_drewN | apply below_drew1) | exact HB.out))) : w.heap.size ≤ gb289)); have n3_ := Aside0.mk ((by rw [hg]; exact (below_size (by repeat (first | (with_reducible first | exact HB.out | apply below_alloc | apply pw_below_drewN | apply below_drew1) | exact HB.out))) : w.heap.size ≤ gb289)); clear HB; have HB := n0_; have BK289 := n1_; have GW289 := n2_; have GE289 := n3_; clear n0_ n1_ n2_ n3_; clear hb hbox hg) | ((with_reducible refine gate_dst (N := 3) rfl ?_); (try (refine gate_guard (by rfl) ?_; dsimp only)); refine box_event ?hg (N := 3) ?hd (cs := #[.int .i64 a1_0, .int .i64 a1_1, .int .i64 a1_2, .slice A1_3 l1_3.length c1_3]) (t := 24) ?hr ?_; (case hd => rfl); (case hg => rfl); (case hr => first | (go_simp; done) | (go_simp; rfl)); intro gb290 hg w5 hbox hb; have n0_ := Aside0.mk (blk_below (g := gb289) (o := .cells #[.int .i64 a0_0, .int .i64 a0_1, .int .i64 a0_2, .slice A0_3 l0_3.length c0_3] 24 (0, 0)) (by (with_reducible repeat (first | refine blk_drewN ?_ _ | refine blk_drew ?_ | refine blk_alloc ?_ _)); exact BK289.out) hb); have n1_ := Aside0.mk (below_step (by repeat (first | (with_reducible first | exact HB.out | apply below_alloc | apply pw_below_drewN | apply below_drew1 | refine below_set ?_ GE289.out) | exact HB.out)) hb); have n2_ := Aside0.mk (hbox); have n3_ := Aside0.mk ((by rw [hg]; exact (below_size (by repeat (first | (with_reducible first | exact HB.out | apply below_alloc | apply pw_below_drewN | apply below_drew1 | refine below_set ?_ GE289.out) | exact HB.out))) : w.heap.size ≤ gb290)); have n4_ := Aside0.mk ((by rw [hg]; exact (below_size (by repeat (first | (with_reducible first | exact HB.out | apply below_alloc | apply pw_below_drewN | apply below_drew1 | refine below_set ?_ GE289.out) | exact HB.out))) : w.heap.size ≤ gb290)); have n5_ := Aside0.mk ((by rw [hg]; exact Nat.ne_of_lt (blk_lt (g := gb289) (o := .cells #[.int .i64 a0_0, .int .i64 a0_1, .int .i64 a0_2, .slice A0_3 l0_3.length c0_3] 24 (0, 0)) (by (with_reducible repeat (first | refine blk_drewN ?_ _ | refine blk_drew ?_ | refine blk_alloc ?_ _)); exact BK289.out)) : gb289 ≠ gb290)); have n6_ := Aside0.mk ((by rw [hg]; exact Nat.ne_of_gt (blk_lt (g := gb289) (o := .cells #[.int .i64 a0_0, .int .i64 a0_1, .int .i64 a0_2, .slice A0_3 l0_3.length c0_3] 24 (0, 0)) (by (with_reducible repeat (first | refine blk_drewN ?_ _ | refine blk_drew ?_ | refine blk_alloc ?_ _)); exact BK289.out)) : gb290 ≠ gb289)); clear BK289; clear HB; have BK289 := n0_; have HB := n1_; have BK290 := n2_; have GW290 := n3_; have GE290 := n4_; have NB289_290 := n5_; have NB290_289 := n6_; clear n0_ n1_ n2_ n3_ n4_ n5_ n6_; clear hb hbox hg)); go_upto_region 1 with (first | ((with_reducible refine gate_dst (N := 2) rfl ?_); (try (refine gate_guard (by rfl) ?_; dsimp only)); refine box_event ?hg (N := 2) ?hd (cs := #[.int .i64 a0_0, .int .i64 a0_1, .int .i64 a0_2, .slice A0_3 l0_3.length c0_3]) (t := 24) ?hr ?_; (case hd => rfl); (case hg => rfl); (case hr => first | (go_simp; done) | (go_simp; rfl)); intro gb289 hg w4 hbox hb; have n0_ := Aside0.mk (below_step (by repeat (first | (with_reducible first | exact HB.out | apply below_alloc | apply pw_below_drewN | apply below_drew1) | exact HB.out)) hb); have n1_ := Aside0.mk (hbox); have n2_ := Aside0.mk ((by rw [hg]; exact (below_size (by repeat (first | (with_reducible first | exact HB.out | apply below_alloc | apply pw_below_drewN | apply below_drew1) | exact HB.out))) : w.heap.size ≤ gb289)); have n3_ := Aside0.mk ((by rw [hg]; exact (below_size (by repeat (first | (with_reducible first | exact HB.out | apply below_alloc | apply pw_below_drewN | apply below_drew1) | exact HB.out))) : w.heap.size ≤ gb289)); clear HB; have HB := n0_; have BK289 := n1_; have GW289 := n2_; have GE289 := n3_; clear n0_ n1_ n2_ n3_; clear hb hbox hg) | ((with_reducible refine gate_dst (N := 3) rfl ?_); (try (refine gate_guard (by rfl) ?_; dsimp only)); refine box_event ?hg (N := 3) ?hd (cs := #[.int .i64 a1_0, .int .i64 a1_1, .int .i64 a1_2, .slice A1_3 l1_3.length c1_3]) (t := 24) ?hr ?_; (case hd => rfl); (case hg => rfl); (case hr => first | (go_simp; done) | (go_simp; rfl)); intro gb290 hg w5 hbox hb; have n0_ := Aside0.mk (blk_below (g := gb289) (o := .cells #[.int .i64 a0_0, .int .i64 a0_1, .int .i64 a0_2, .slice A0_3 l0_3.length c0_3] 24 (0, 0)) (by (with_reducible repeat (first | refine blk_drewN ?_ _ | refine blk_drew ?_ | refine blk_alloc ?_ _)); exact BK289.out) hb); have n1_ := Aside0.mk (below_step (by repeat (first | (with_reducible first | exact HB.out | apply below_alloc | apply pw_below_drewN | apply below_drew1 | refine below_set ?_ GE289.out) | exact HB.out)) hb); have n2_ := Aside0.mk (hbox); have n3_ := Aside0.mk ((by rw [hg]; exact (below_size (by repeat (first | (with_reducible first | exact HB.out | apply below_alloc | apply pw_below_drewN | apply below_drew1 | refine below_set ?_ GE289.out) | exact HB.out))) : w.heap.size ≤ gb290)); have n4_ := Aside0.mk ((by rw [hg]; exact (below_size (by repeat (first | (with_reducible first | exact HB.out | apply below_alloc | apply pw_below_drewN | apply below_drew1 | refine below_set ?_ GE289.out) | exact HB.out))) : w.heap.size ≤ gb290)); have n5_ := Aside0.mk ((by rw [hg]; exact Nat.ne_of_lt (blk_lt (g := gb289) (o := .cells #[.int .i64 a0_0, .int .i64 a0_1, .int .i64 a0_2, .slice A0_3 l0_3.length c0_3] 24 (0, 0)) (by (with_reducible repeat (first | refine blk_drewN ?_ _ | refine blk_drew ?_ | refine blk_alloc ?_ _)); exact BK289.out)) : gb289 ≠ gb290)); have n6_ := Aside0.mk ((by rw [hg]; exact Nat.ne_of_gt (blk_lt (g := gb289) (o := .cells #[.int .i64 a0_0, .int .i64 a0_1, .int .i64 a0_2, .slice A0_3 l0_3.length c0_3] 24 (0, 0)) (by (with_reducible repeat (first | refine blk_drewN ?_ _ | refine blk_drew ?_ | refine blk_alloc ?_ _)); exact BK289.out)) : gb290 ≠ gb289)); clear BK289; clear HB; have BK289 := n0_; have HB := n1_; have BK290 := n2_; have GW290 := n3_; have GE290 := n4_; have NB289_290 := n5_; have NB290_289 := n6_; clear n0_ n1_ n2_ n3_ n4_ n5_ n6_; clear hb hbox hg)))
  (try simp only [Act.put, List.setIfInBounds_toArray, List.set_cons_zero, List.set_cons_succ])
  go_cut [36] (fun v36 wc => ∃ (kq : Nat) (x36_2 : Bool), v36 = .bool x36_2 ∧ Aside0 (prog_Same.j0 kq x36_2 a0_0 a0_1 a0_2 l0_3 a1_0 a1_1 a1_2 l1_3 = some r) ∧ Aside0 (kq ≤ k) ∧ Aside0 (wc.heap[gb289]? = some (.cells #[.int .i64 a0_0, .int .i64 a0_1, .int .i64 a0_2, (.slice A0_3 l0_3.length c0_3)] 24 (0, 0))) ∧ Aside0 (wc.heap[gb290]? = some (.cells #[.int .i64 a1_0, .int .i64 a1_1, .int .i64 a1_2, (.slice A1_3 l1_3.length c1_3)] 24 (0, 0))) ∧ Aside0 (Below w.heap.size w wc))
  case first =>
    have H := HC3.out
    clear HC3
    by_cases c6 : a0_0 = a1_0
    · rw [if_pos c6] at H
      have c6b0 : (a0_0 == a1_0) = true := beq_iff_eq.mpr c6
      have c6b1 : (a0_0 != a1_0) = false := bne_eq_false_iff_eq.mpr c6
      clear c6
      (first | rw [c6b0] | (simp only [i64_w, i32_w]; rw [c6b0]) | skip)
      by_cases c7 : a0_1 = a1_1
      · rw [if_pos c7] at H
        have c7b0 : (a0_1 == a1_1) = true := beq_iff_eq.mpr c7
        have c7b1 : (a0_1 != a1_1) = false := bne_eq_false_iff_eq.mpr c7
        clear c7
        by_cases c8 : a0_2 = a1_2
        · rw [if_pos c8] at H
          have c8b0 : (a0_2 == a1_2) = true := beq_iff_eq.mpr c8
          have c8b1 : (a0_2 != a1_2) = false := bne_eq_false_iff_eq.mpr c8
          clear c8
          have H' := Aside0.mk H
          clear H
          have hnb9 := NB289_290.out
          have hnc9 := NB290_289.out
          have hcz10_0 : w5.cell? ⟨gb289, 0, none⟩ = some (.int .i64 a0_0) := (blk_cell BK289.out 0).trans rfl
          have hcz10_1 : w5.cell? ⟨gb289, 1, none⟩ = some (.int .i64 a0_1) := (blk_cell BK289.out 1).trans rfl
          have hcz10_2 : w5.cell? ⟨gb289, 2, none⟩ = some (.int .i64 a0_2) := (blk_cell BK289.out 2).trans rfl
          have hcz10_3 : w5.cell? ⟨gb289, 3, none⟩ = some (.slice A0_3 l0_3.length c0_3) := (blk_cell BK289.out 3).trans rfl
          have hfz10_0 := blk_frozen BK289.out 0
          have hfz10_1 := blk_frozen BK289.out 1
          have hfz10_2 := blk_frozen BK289.out 2
          have hfz10_3 := blk_frozen BK289.out 3
          have hcz11_0 : w5.cell? ⟨gb290, 0, none⟩ = some (.int .i64 a1_0) := (blk_cell BK290.out 0).trans rfl
          have hcz11_1 : w5.cell? ⟨gb290, 1, none⟩ = some (.int .i64 a1_1) := (blk_cell BK290.out 1).trans rfl
          have hcz11_2 : w5.cell? ⟨gb290, 2, none⟩ = some (.int .i64 a1_2) := (blk_cell BK290.out 2).trans rfl
          have hcz11_3 : w5.cell? ⟨gb290, 3, none⟩ = some (.slice A1_3 l1_3.length c1_3) := (blk_cell BK290.out 3).trans rfl
          have hfz11_0 := blk_frozen BK290.out 0
          have hfz11_1 := blk_frozen BK290.out 1
          have hfz11_2 := blk_frozen BK290.out 2
          have hfz11_3 := blk_frozen BK290.out 3
          go_wp2
          repeat (go_quiet (fail); try go_wp2)
          go_meet
          case rel => exact ⟨_, (((l0_3.length : Int) != (l1_3.length : Int))), (by first | rfl | (simp; done) | (simp [*]; done)), H', ⟨by first | omega | exact Nat.le_refl _⟩, ⟨by (with_reducible repeat (first | refine blk_drewN ?_ _ | refine blk_drew ?_ | refine blk_alloc ?_ _)); exact BK289.out⟩, ⟨by (with_reducible repeat (first | refine blk_drewN ?_ _ | refine blk_drew ?_ | refine blk_alloc ?_ _)); exact BK290.out⟩, ⟨by repeat (first | (with_reducible first | exact HB.out | apply below_alloc | apply pw_below_drewN | apply below_drew1 | refine below_set ?_ GE289.out | refine below_set ?_ GE290.out) | exact HB.out)⟩⟩
        · rw [if_neg c8] at H
          have c8b0 : (a0_2 == a1_2) = false := beq_eq_false_iff_ne.mpr c8
          have c8b1 : (a0_2 != a1_2) = true := bne_iff_ne.mpr c8
          have H' := Aside0.mk H
          clear H
          have hnb12 := NB289_290.out
          have hnc12 := NB290_289.out
          have hcz13_0 : w5.cell? ⟨gb289, 0, none⟩ = some (.int .i64 a0_0) := (blk_cell BK289.out 0).trans rfl
          have hcz13_1 : w5.cell? ⟨gb289, 1, none⟩ = some (.int .i64 a0_1) := (blk_cell BK289.out 1).trans rfl
          have hcz13_2 : w5.cell? ⟨gb289, 2, none⟩ = some (.int .i64 a0_2) := (blk_cell BK289.out 2).trans rfl
          have hcz13_3 : w5.cell? ⟨gb289, 3, none⟩ = some (.slice A0_3 l0_3.length c0_3) := (blk_cell BK289.out 3).trans rfl
          have hfz13_0 := blk_frozen BK289.out 0
          have hfz13_1 := blk_frozen BK289.out 1
          have hfz13_2 := blk_frozen BK289.out 2
          have hfz13_3 := blk_frozen BK289.out 3
          have hcz14_0 : w5.cell? ⟨gb290, 0, none⟩ = some (.int .i64 a1_0) := (blk_cell BK290.out 0).trans rfl
          have hcz14_1 : w5.cell? ⟨gb290, 1, none⟩ = some (.int .i64 a1_1) := (blk_cell BK290.out 1).trans rfl
          have hcz14_2 : w5.cell? ⟨gb290, 2, none⟩ = some (.int .i64 a1_2) := (blk_cell BK290.out 2).trans rfl
          have hcz14_3 : w5.cell? ⟨gb290, 3, none⟩ = some (.slice A1_3 l1_3.length c1_3) := (blk_cell BK290.out 3).trans rfl
          have hfz14_0 := blk_frozen BK290.out 0
          have hfz14_1 := blk_frozen BK290.out 1
          have hfz14_2 := blk_frozen BK290.out 2
          have hfz14_3 := blk_frozen BK290.out 3
          go_wp2
          repeat (go_quiet (fail); try go_wp2)
          go_meet
          case rel => exact ⟨_, (true), (by first | rfl | (simp; done) | (simp [*]; done)), H', ⟨by first | omega | exact Nat.le_refl _⟩, ⟨by (with_reducible repeat (first | refine blk_drewN ?_ _ | refine blk_drew ?_ | refine blk_alloc ?_ _)); exact BK289.out⟩, ⟨by (with_reducible repeat (first | refine blk_drewN ?_ _ | refine blk_drew ?_ | refine blk_alloc ?_ _)); exact BK290.out⟩, ⟨by repeat (first | (with_reducible first | exact HB.out | apply below_alloc | apply pw_below_drewN | apply below_drew1 | refine below_set ?_ GE289.out | refine below_set ?_ GE290.out) | exact HB.out)⟩⟩
      · rw [if_neg c7] at H
        have c7b0 : (a0_1 == a1_1) = false := beq_eq_false_iff_ne.mpr c7
        have c7b1 : (a0_1 != a1_1) = true := bne_iff_ne.mpr c7
        have H' := Aside0.mk H
        clear H
        have hnb15 := NB289_290.out
        have hnc15 := NB290_289.out
        have hcz16_0 : w5.cell? ⟨gb289, 0, none⟩ = some (.int .i64 a0_0) := (blk_cell BK289.out 0).trans rfl
        have hcz16_1 : w5.cell? ⟨gb289, 1, none⟩ = some (.int .i64 a0_1) := (blk_cell BK289.out 1).trans rfl
        have hcz16_2 : w5.cell? ⟨gb289, 2, none⟩ = some (.int .i64 a0_2) := (blk_cell BK289.out 2).trans rfl
        have hcz16_3 : w5.cell? ⟨gb289, 3, none⟩ = some (.slice A0_3 l0_3.length c0_3) := (blk_cell BK289.out 3).trans rfl
        have hfz16_0 := blk_frozen BK289.out 0
        have hfz16_1 := blk_frozen BK289.out 1
        have hfz16_2 := blk_frozen BK289.out 2
        have hfz16_3 := blk_frozen BK289.out 3
        have hcz17_0 : w5.cell? ⟨gb290, 0, none⟩ = some (.int .i64 a1_0) := (blk_cell BK290.out 0).trans rfl
        have hcz17_1 : w5.cell? ⟨gb290, 1, none⟩ = some (.int .i64 a1_1) := (blk_cell BK290.out 1).trans rfl
        have hcz17_2 : w5.cell? ⟨gb290, 2, none⟩ = some (.int .i64 a1_2) := (blk_cell BK290.out 2).trans rfl
        have hcz17_3 : w5.cell? ⟨gb290, 3, none⟩ = some (.slice A1_3 l1_3.length c1_3) := (blk_cell BK290.out 3).trans rfl
        have hfz17_0 := blk_frozen BK290.out 0
        have hfz17_1 := blk_frozen BK290.out 1
        have hfz17_2 := blk_frozen BK290.out 2
        have hfz17_3 := blk_frozen BK290.out 3
        go_wp2
        repeat (go_quiet (fail); try go_wp2)
        go_meet
        case rel => exact ⟨_, (true), (by first | rfl | (simp; done) | (simp [*]; done)), H', ⟨by first | omega | exact Nat.le_refl _⟩, ⟨by (with_reducible repeat (first | refine blk_drewN ?_ _ | refine blk_drew ?_ | refine blk_alloc ?_ _)); exact BK289.out⟩, ⟨by (with_reducible repeat (first | refine blk_drewN ?_ _ | refine blk_drew ?_ | refine blk_alloc ?_ _)); exact BK290.out⟩, ⟨by repeat (first | (with_reducible first | exact HB.out | apply below_alloc | apply pw_below_drewN | apply below_drew1 | refine below_set ?_ GE289.out | refine below_set ?_ GE290.out) | exact HB.out)⟩⟩
    · rw [if_neg c6] at H
      have c6b0 : (a0_0 == a1_0) = false := beq_eq_false_iff_ne.mpr c6
      have c6b1 : (a0_0 != a1_0) = true := bne_iff_ne.mpr c6
      (first | rw [c6b0] | (simp only [i64_w, i32_w]; rw [c6b0]) | skip)
      have H' := Aside0.mk H
      clear H
      have hnb18 := NB289_290.out
      have hnc18 := NB290_289.out
      have hcz19_0 : w5.cell? ⟨gb289, 0, none⟩ = some (.int .i64 a0_0) := (blk_cell BK289.out 0).trans rfl
      have hcz19_1 : w5.cell? ⟨gb289, 1, none⟩ = some (.int .i64 a0_1) := (blk_cell BK289.out 1).trans rfl
      have hcz19_2 : w5.cell? ⟨gb289, 2, none⟩ = some (.int .i64 a0_2) := (blk_cell BK289.out 2).trans rfl
      have hcz19_3 : w5.cell? ⟨gb289, 3, none⟩ = some (.slice A0_3 l0_3.length c0_3) := (blk_cell BK289.out 3).trans rfl
      have hfz19_0 := blk_frozen BK289.out 0
      have hfz19_1 := blk_frozen BK289.out 1
      have hfz19_2 := blk_frozen BK289.out 2
      have hfz19_3 := blk_frozen BK289.out 3
      have hcz20_0 : w5.cell? ⟨gb290, 0, none⟩ = some (.int .i64 a1_0) := (blk_cell BK290.out 0).trans rfl
      have hcz20_1 : w5.cell? ⟨gb290, 1, none⟩ = some (.int .i64 a1_1) := (blk_cell BK290.out 1).trans rfl
      have hcz20_2 : w5.cell? ⟨gb290, 2, none⟩ = some (.int .i64 a1_2) := (blk_cell BK290.out 2).trans rfl
      have hcz20_3 : w5.cell? ⟨gb290, 3, none⟩ = some (.slice A1_3 l1_3.length c1_3) := (blk_cell BK290.out 3).trans rfl
      have hfz20_0 := blk_frozen BK290.out 0
      have hfz20_1 := blk_frozen BK290.out 1
      have hfz20_2 := blk_frozen BK290.out 2
      have hfz20_3 := blk_frozen BK290.out 3
      go_wp2
      repeat (go_quiet (fail); try go_wp2)
      go_meet
      case rel => exact ⟨_, (true), (by first | rfl | (simp; done) | (simp [*]; done)), H', ⟨by first | omega | exact Nat.le_refl _⟩, ⟨by (with_reducible repeat (first | refine blk_drewN ?_ _ | refine blk_drew ?_ | refine blk_alloc ?_ _)); exact BK289.out⟩, ⟨by (with_reducible repeat (first | refine blk_drewN ?_ _ | refine blk_drew ?_ | refine blk_alloc ?_ _)); exact BK290.out⟩, ⟨by repeat (first | (with_reducible first | exact HB.out | apply below_alloc | apply pw_below_drewN | apply below_drew1 | refine below_set ?_ GE289.out | refine below_set ?_ GE290.out) | exact HB.out)⟩⟩
  case rest =>
    clear HC3
    try clear c1
    try clear p2
    try clear c6
    try clear c6b0
    try clear c6b1
    try clear c7
    try clear c7b0
    try clear c7b1
    try clear c8
    try clear c8b0
    try clear c8b1
    try clear c9
    try clear c12
    try clear c15
    try clear c18
    try clear hcz10_0
    try clear hcz10_1
    try clear hcz10_2
    try clear hcz10_3
    try clear hcz11_0
    try clear hcz11_1
    try clear hcz11_2
    try clear hcz11_3
    try clear hcz13_0
    try clear hcz13_1
    try clear hcz13_2
    try clear hcz13_3
    try clear hcz14_0
    try clear hcz14_1
    try clear hcz14_2
    try clear hcz14_3
    try clear hcz16_0
    try clear hcz16_1
    try clear hcz16_2
    try clear hcz16_3
    try clear hcz17_0
    try clear hcz17_1
    try clear hcz17_2
    try clear hcz17_3
    try clear hcz19_0
    try clear hcz19_1
    try clear hcz19_2
    try clear hcz19_3
    try clear hcz20_0
    try clear hcz20_1
    try clear hcz20_2
    try clear hcz20_3
    try clear hfz10_0
    try clear hfz10_1
    try clear hfz10_2
    try clear hfz10_3
    try clear hfz11_0
    try clear hfz11_1
    try clear hfz11_2
    try clear hfz11_3
    try clear hfz13_0
    try clear hfz13_1
    try clear hfz13_2
    try clear hfz13_3
    try clear hfz14_0
    try clear hfz14_1
    try clear hfz14_2
    try clear hfz14_3
    try clear hfz16_0
    try clear hfz16_1
    try clear hfz16_2
    try clear hfz16_3
    try clear hfz17_0
    try clear hfz17_1
    try clear hfz17_2
    try clear hfz17_3
    try clear hfz19_0
    try clear hfz19_1
    try clear hfz19_2
    try clear hfz19_3
    try clear hfz20_0
    try clear hfz20_1
    try clear hfz20_2
    try clear hfz20_3
    obtain ⟨kq, x36_2, rfl, HA, HJ2, BK289, BK290, HB⟩ := hcut
    cases kq with
    | zero => exact absurd HA.out (by simp [prog_Same.j0])
    | succ kj2 =>
      have H := HA.out
      clear HA
      simp only [prog_Same.j0] at H
      by_cases c21 : x36_2 = true
      · subst c21
        have H1 : (some false) = some r := by rw [if_pos rfl] at H; exact H
        clear H
        have H := H1
        clear H1
        obtain rfl := Option.some.inj H
        go_wp2
        repeat (go_quiet (fail); try go_wp2)
        go_ret
        exact ⟨by first | rfl | (simp [errW_none, errW_some] <;> rfl) | (simp [*, errW_none, errW_some] <;> rfl), by repeat (first | (with_reducible first | exact HB.out | apply below_alloc | apply pw_below_drewN | apply below_drew1 | refine below_set ?_ GE289.out | refine below_set ?_ GE290.out) | exact HB.out)⟩
      · replace c21 := Bool.eq_false_iff.mpr c21
        subst c21
        have H1 : (prog_Same.l0 kj2 l0_3 (l0_3.length : Int) 0 a1_0 a1_1 a1_2 l1_3) = some r := by rw [if_neg (show ¬ (false = true) by decide)] at H; exact H
        clear H
        have H := H1
        clear H1
        have H' := Aside0.mk H
        clear H
        have hnb22 := NB289_290.out
        have hnc22 := NB290_289.out
        have hcz23_0 : wc.cell? ⟨gb289, 0, none⟩ = some (.int .i64 a0_0) := (blk_cell BK289.out 0).trans rfl
        have hcz23_1 : wc.cell? ⟨gb289, 1, none⟩ = some (.int .i64 a0_1) := (blk_cell BK289.out 1).trans rfl
        have hcz23_2 : wc.cell? ⟨gb289, 2, none⟩ = some (.int .i64 a0_2) := (blk_cell BK289.out 2).trans rfl
        have hcz23_3 : wc.cell? ⟨gb289, 3, none⟩ = some (.slice A0_3 l0_3.length c0_3) := (blk_cell BK289.out 3).trans rfl
        have hfz23_0 := blk_frozen BK289.out 0
        have hfz23_1 := blk_frozen BK289.out 1
        have hfz23_2 := blk_frozen BK289.out 2
        have hfz23_3 := blk_frozen BK289.out 3
        go_wp2
        repeat (go_quiet (fail); try go_wp2)
        go_loopg [40] kj2 (fun kq v40 w' => ∃ (x40_2 : Int), v40 = .int .i64 x40_2 ∧ Aside0 (prog_Same.l0 kq l0_3 (l0_3.length : Int) x40_2 a1_0 a1_1 a1_2 l1_3 = some r) ∧ Aside0 (kq ≤ kj2) ∧ Aside0 (w'.heap[gb289]? = some (.cells #[.int .i64 a0_0, .int .i64 a0_1, .int .i64 a0_2, (.slice A0_3 l0_3.length c0_3)] 24 (0, 0))) ∧ Aside0 (w'.heap[gb290]? = some (.cells #[.int .i64 a1_0, .int .i64 a1_1, .int .i64 a1_2, (.slice A1_3 l1_3.length c1_3)] 24 (0, 0))) ∧ Aside0 (Below w.heap.size w w'))
        case atStart => exact ⟨(0), (by first | rfl | (simp; done) | (simp [*]; done)), H', ⟨Nat.le_refl _⟩, ⟨by (with_reducible repeat (first | refine blk_drewN ?_ _ | refine blk_drew ?_ | refine blk_alloc ?_ _)); exact BK289.out⟩, ⟨by (with_reducible repeat (first | refine blk_drewN ?_ _ | refine blk_drew ?_ | refine blk_alloc ?_ _)); exact BK290.out⟩, ⟨by repeat (first | (with_reducible first | exact HB.out | apply below_alloc | apply pw_below_drewN | apply below_drew1 | refine below_set ?_ GE289.out | refine below_set ?_ GE290.out) | exact HB.out)⟩⟩
        case round =>
          clear H'
          try clear c1
          try clear c2
          try clear p2
          try clear c6
          try clear c6b0
          try clear c6b1
          try clear c7
          try clear c7b0
          try clear c7b1
          try clear c8
          try clear c8b0
          try clear c8b1
          try clear c9
          try clear c12
          try clear c15
          try clear c18
          try clear c21
          try clear c22
          try clear hcz10_0
          try clear hcz10_1
          try clear hcz10_2
          try clear hcz10_3
          try clear hcz11_0
          try clear hcz11_1
          try clear hcz11_2
          try clear hcz11_3
          try clear hcz13_0
          try clear hcz13_1
          try clear hcz13_2
          try clear hcz13_3
          try clear hcz14_0
          try clear hcz14_1
          try clear hcz14_2
          try clear hcz14_3
          try clear hcz16_0
          try clear hcz16_1
          try clear hcz16_2
          try clear hcz16_3
          try clear hcz17_0
          try clear hcz17_1
          try clear hcz17_2
          try clear hcz17_3
          try clear hcz19_0
          try clear hcz19_1
          try clear hcz19_2
          try clear hcz19_3
          try clear hcz20_0
          try clear hcz20_1
          try clear hcz20_2
          try clear hcz20_3
          try clear hcz23_0
          try clear hcz23_1
          try clear hcz23_2
          try clear hcz23_3
          try clear hfz10_0
          try clear hfz10_1
          try clear hfz10_2
          try clear hfz10_3
          try clear hfz11_0
          try clear hfz11_1
          try clear hfz11_2
          try clear hfz11_3
          try clear hfz13_0
          try clear hfz13_1
          try clear hfz13_2
          try clear hfz13_3
          try clear hfz14_0
          try clear hfz14_1
          try clear hfz14_2
          try clear hfz14_3
          try clear hfz16_0
          try clear hfz16_1
          try clear hfz16_2
          try clear hfz16_3
          try clear hfz17_0
          try clear hfz17_1
          try clear hfz17_2
          try clear hfz17_3
          try clear hfz19_0
          try clear hfz19_1
          try clear hfz19_2
          try clear hfz19_3
          try clear hfz20_0
          try clear hfz20_1
          try clear hfz20_2
          try clear hfz20_3
          try clear hfz23_0
          try clear hfz23_1
          try clear hfz23_2
          try clear hfz23_3
          try clear p2
          obtain ⟨x40_2, rfl, HA, HK2, BK289, BK290, HB⟩ := hrel
          cases gk with
          | zero => exact absurd HA.out (by simp [prog_Same.l0])
          | succ k2 =>
            have H := HA.out
            clear HA
            simp only [prog_Same.l0] at H
            by_cases c24 : x40_2 < (l0_3.length : Int)
            · rw [if_pos c24] at H
              have c24b0 : decide (x40_2 < (l0_3.length : Int)) = true := decide_eq_true c24
              clear c24
              by_cases c25 : 0 ≤ x40_2
              · rw [if_pos c25] at H
                have c25b0 : decide (0 ≤ x40_2) = true := decide_eq_true c25
                clear c25
                by_cases c26 : x40_2 < (l0_3.length : Int)
                · rw [if_pos c26] at H
                  have c26b0 : decide (x40_2 < (l0_3.length : Int)) = true := decide_eq_true c26
                  clear c26
                  by_cases c27 : x40_2 < (l1_3.length : Int)
                  · rw [if_pos c27] at H
                    have c27b0 : decide (x40_2 < (l1_3.length : Int)) = true := decide_eq_true c27
                    clear c27
                    by_cases c28 : ((rd_L2 l0_3 x40_2).length : Int) = ((rd_L2 l1_3 x40_2).length : Int)
                    · rw [if_pos c28] at H
                      have c28b0 : (((rd_L2 l0_3 x40_2).length : Int) == ((rd_L2 l1_3 x40_2).length : Int)) = true := beq_iff_eq.mpr c28
                      have c28b1 : (((rd_L2 l0_3 x40_2).length : Int) != ((rd_L2 l1_3 x40_2).length : Int)) = false := bne_eq_false_iff_eq.mpr c28
                      have c28b2 : ((rd_L2 l0_3 x40_2).length == (rd_L2 l1_3 x40_2).length) = true := by first | simpa using c28 | (simp at c28 ⊢; omega)
                      clear c28
                      have H' := Aside0.mk H
                      clear H
                      have p291 : 0 ≤ (x40_2 : Int) := of_decide_eq_true (by first | (with_reducible assumption) | assumption)
                      have q291 : x40_2 < (l0_3.length : Int) := of_decide_eq_true (by first | (with_reducible assumption) | assumption)
                      obtain ⟨ad291, A291_0, c291_0, e291, hx291_0, hl291_0, hi291_0⟩ := at_L2 HR0_3.out x40_2 p291 q291
                      cases e291
                      try replace hx291_0 := (HB.out.cell (World.block_lt_of_cell? w _ hx291_0)).trans hx291_0
                      have HR291_0 := Aside0.mk hi291_0
                      have HC291_0 := Aside0.mk hl291_0
                      clear hi291_0 hl291_0
                      replace p291 := eq_true p291
                      replace q291 := eq_true q291
                      have hnb29 := NB290_289.out
                      have hnc29 := NB289_290.out
                      have hcz30_0 : wr.cell? ⟨gb290, 0, none⟩ = some (.int .i64 a1_0) := (blk_cell BK290.out 0).trans rfl
                      have hcz30_1 : wr.cell? ⟨gb290, 1, none⟩ = some (.int .i64 a1_1) := (blk_cell BK290.out 1).trans rfl
                      have hcz30_2 : wr.cell? ⟨gb290, 2, none⟩ = some (.int .i64 a1_2) := (blk_cell BK290.out 2).trans rfl
                      have hcz30_3 : wr.cell? ⟨gb290, 3, none⟩ = some (.slice A1_3 l1_3.length c1_3) := (blk_cell BK290.out 3).trans rfl
                      have hfz30_0 := blk_frozen BK290.out 0
                      have hfz30_1 := blk_frozen BK290.out 1
                      have hfz30_2 := blk_frozen BK290.out 2
                      have hfz30_3 := blk_frozen BK290.out 3
                      have p292 : 0 ≤ (x40_2 : Int) := of_decide_eq_true (by first | (with_reducible assumption) | assumption)
                      have q292 : x40_2 < (l1_3.length : Int) := of_decide_eq_true (by first | (with_reducible assumption) | assumption)
                      obtain ⟨ad292, A292_0, c292_0, e292, hx292_0, hl292_0, hi292_0⟩ := at_L2 HR1_3.out x40_2 p292 q292
                      cases e292
                      try replace hx292_0 := (HB.out.cell (World.block_lt_of_cell? w _ hx292_0)).trans hx292_0
                      have HR292_0 := Aside0.mk hi292_0
                      have HC292_0 := Aside0.mk hl292_0
                      clear hi292_0 hl292_0
                      replace p292 := eq_true p292
                      replace q292 := eq_true q292
                      go_wp2
                      repeat (go_quiet (fail); try go_wp2)
                      go_loopg [56] k2 (fun kq v56 w' => ∃ (x56_3 : Int), v56 = .int .i64 x56_3 ∧ Aside0 (prog_Same.l1 kq x40_2 l0_3 (l0_3.length : Int) x40_2 (rd_L2 l0_3 x40_2) ((rd_L2 l0_3 x40_2).length : Int) x56_3 a1_0 a1_1 a1_2 l1_3 = some r) ∧ Aside0 (kq ≤ k2) ∧ Aside0 (w'.heap[gb289]? = some (.cells #[.int .i64 a0_0, .int .i64 a0_1, .int .i64 a0_2, (.slice (some ad291) l0_3.length c0_3)] 24 (0, 0))) ∧ Aside0 (w'.heap[gb290]? = some (.cells #[.int .i64 a1_0, .int .i64 a1_1, .int .i64 a1_2, (.slice (some ad292) l1_3.length c1_3)] 24 (0, 0))) ∧ Aside0 (Below w.heap.size w w'))
                      case atStart => exact ⟨(0), (by first | rfl | (simp; done) | (simp [*]; done)), H', ⟨Nat.le_refl _⟩, ⟨by (with_reducible repeat (first | refine blk_drewN ?_ _ | refine blk_drew ?_ | refine blk_alloc ?_ _)); exact BK289.out⟩, ⟨by (with_reducible repeat (first | refine blk_drewN ?_ _ | refine blk_drew ?_ | refine blk_alloc ?_ _)); exact BK290.out⟩, ⟨by repeat (first | (with_reducible first | exact HB.out | apply below_alloc | apply pw_below_drewN | apply below_drew1 | refine below_set ?_ GE289.out | refine below_set ?_ GE290.out) | exact HB.out)⟩⟩
                      case round =>
                        clear H'
                        try clear c1
                        try clear c2
                        try clear p2
                        try clear q2
                        try clear hx2
                        try clear c6
                        try clear c6b0
                        try clear c6b1
                        try clear c7
                        try clear c7b0
                        try clear c7b1
                        try clear c8
                        try clear c8b0
                        try clear c8b1
                        try clear c9
                        try clear c12
                        try clear c15
                        try clear c18
                        try clear c21
                        try clear c22
                        try clear c24
                        try clear c24b0
                        try clear c25
                        try clear c25b0
                        try clear c26
                        try clear c26b0
                        try clear c27
                        try clear c27b0
                        try clear c28
                        try clear c28b0
                        try clear c28b1
                        try clear c28b2
                        try clear c29
                        try clear p29
                        try clear q29
                        try clear hx29
                        try clear hcz10_0
                        try clear hcz10_1
                        try clear hcz10_2
                        try clear hcz10_3
                        try clear hcz11_0
                        try clear hcz11_1
                        try clear hcz11_2
                        try clear hcz11_3
                        try clear hcz13_0
                        try clear hcz13_1
                        try clear hcz13_2
                        try clear hcz13_3
                        try clear hcz14_0
                        try clear hcz14_1
                        try clear hcz14_2
                        try clear hcz14_3
                        try clear hcz16_0
                        try clear hcz16_1
                        try clear hcz16_2
                        try clear hcz16_3
                        try clear hcz17_0
                        try clear hcz17_1
                        try clear hcz17_2
                        try clear hcz17_3
                        try clear hcz19_0
                        try clear hcz19_1
                        try clear hcz19_2
                        try clear hcz19_3
                        try clear hcz20_0
                        try clear hcz20_1
                        try clear hcz20_2
                        try clear hcz20_3
                        try clear hcz23_0
                        try clear hcz23_1
                        try clear hcz23_2
                        try clear hcz23_3
                        try clear hcz30_0
                        try clear hcz30_1
                        try clear hcz30_2
                        try clear hcz30_3
                        try clear hfz10_0
                        try clear hfz10_1
                        try clear hfz10_2
                        try clear hfz10_3
                        try clear hfz11_0
                        try clear hfz11_1
                        try clear hfz11_2
                        try clear hfz11_3
                        try clear hfz13_0
                        try clear hfz13_1
                        try clear hfz13_2
                        try clear hfz13_3
                        try clear hfz14_0
                        try clear hfz14_1
                        try clear hfz14_2
                        try clear hfz14_3
                        try clear hfz16_0
                        try clear hfz16_1
                        try clear hfz16_2
                        try clear hfz16_3
                        try clear hfz17_0
                        try clear hfz17_1
                        try clear hfz17_2
                        try clear hfz17_3
                        try clear hfz19_0
                        try clear hfz19_1
                        try clear hfz19_2
                        try clear hfz19_3
                        try clear hfz20_0
                        try clear hfz20_1
                        try clear hfz20_2
                        try clear hfz20_3
                        try clear hfz23_0
                        try clear hfz23_1
                        try clear hfz23_2
                        try clear hfz23_3
                        try clear hfz30_0
                        try clear hfz30_1
                        try clear hfz30_2
                        try clear hfz30_3
                        try clear hx291_0
                        try clear hx292_0
                        try clear p2
                        try clear p291
                        try clear p292
                        try clear q291
                        try clear q292
                        obtain ⟨x56_3, rfl, HA, HK3, BK289, BK290, HB⟩ := hrel
                        cases gk with
                        | zero => exact absurd HA.out (by simp [prog_Same.l1])
                        | succ k3 =>
                          have H := HA.out
                          clear HA
                          simp only [prog_Same.l1] at H
                          by_cases c31 : x56_3 < ((rd_L2 l0_3 x40_2).length : Int)
                          · rw [if_pos c31] at H
                            have c31b0 : decide (x56_3 < ((rd_L2 l0_3 x40_2).length : Int)) = true := decide_eq_true c31
                            clear c31
                            by_cases c32 : 0 ≤ x56_3
                            · rw [if_pos c32] at H
                              have c32b0 : decide (0 ≤ x56_3) = true := decide_eq_true c32
                              clear c32
                              by_cases c33 : x56_3 < ((rd_L2 l0_3 x40_2).length : Int)
                              · rw [if_pos c33] at H
                                have c33b0 : decide (x56_3 < ((rd_L2 l0_3 x40_2).length : Int)) = true := decide_eq_true c33
                                clear c33
                                by_cases c34 : 0 ≤ x40_2
                                · rw [if_pos c34] at H
                                  have c34b0 : decide (0 ≤ x40_2) = true := decide_eq_true c34
                                  clear c34
                                  by_cases c35 : x40_2 < (l1_3.length : Int)
                                  · rw [if_pos c35] at H
                                    have c35b0 : decide (x40_2 < (l1_3.length : Int)) = true := decide_eq_true c35
                                    clear c35
                                    by_cases c36 : x56_3 < ((rd_L2 l1_3 x40_2).length : Int)
                                    · rw [if_pos c36] at H
                                      have c36b0 : decide (x56_3 < ((rd_L2 l1_3 x40_2).length : Int)) = true := decide_eq_true c36
                                      clear c36
                                      by_cases c37 : (!(((rd_T35 (rd_L2 l0_3 x40_2) x56_3).f0) == ((rd_T35 (rd_L2 l1_3 x40_2) x56_3).f0)) || (!(((rd_T35 (rd_L2 l0_3 x40_2) x56_3).f1) == ((rd_T35 (rd_L2 l1_3 x40_2) x56_3).f1)) || (!(((rd_T35 (rd_L2 l0_3 x40_2) x56_3).f2) == ((rd_T35 (rd_L2 l1_3 x40_2) x56_3).f2)) || (!(((rd_T35 (rd_L2 l0_3 x40_2) x56_3).f3) == ((rd_T35 (rd_L2 l1_3 x40_2) x56_3).f3)))))) = true
                                      · rw [if_pos c37] at H
                                        have c37b0 : (!(((rd_T35 (rd_L2 l0_3 x40_2) x56_3).f0) == ((rd_T35 (rd_L2 l1_3 x40_2) x56_3).f0)) || (!(((rd_T35 (rd_L2 l0_3 x40_2) x56_3).f1) == ((rd_T35 (rd_L2 l1_3 x40_2) x56_3).f1)) || (!(((rd_T35 (rd_L2 l0_3 x40_2) x56_3).f2) == ((rd_T35 (rd_L2 l1_3 x40_2) x56_3).f2)) || (!(((rd_T35 (rd_L2 l0_3 x40_2) x56_3).f3) == ((rd_T35 (rd_L2 l1_3 x40_2) x56_3).f3)))))) = true := c37
                                        clear c37
                                        obtain rfl := Option.some.inj H
                                        have p293 : 0 ≤ (x56_3 : Int) := of_decide_eq_true (by first | (with_reducible assumption) | assumption)
                                        have q293 : x56_3 < ((rd_L2 l0_3 x40_2).length : Int) := of_decide_eq_true (by first | (with_reducible assumption) | assumption)
                                        obtain ⟨ad293, e293, hx293_0, hx293_1, hx293_2, hx293_3⟩ := at_T35 HR291_0.out x56_3 p293 q293
                                        cases e293
                                        try replace hx293_0 := (HB.out.cell (World.block_lt_of_cell? w _ hx293_0)).trans hx293_0
                                        try replace hx293_1 := (HB.out.cell (World.block_lt_of_cell? w _ hx293_1)).trans hx293_1
                                        try replace hx293_2 := (HB.out.cell (World.block_lt_of_cell? w _ hx293_2)).trans hx293_2
                                        try replace hx293_3 := (HB.out.cell (World.block_lt_of_cell? w _ hx293_3)).trans hx293_3
                                        replace p293 := eq_true p293
                                        replace q293 := eq_true q293
                                        go_wp2_with (first | ((with_reducible refine gate_dst (N := 8) rfl ?_); (try (refine gate_guard (by rfl) ?_; dsimp only)); refine box_event ?hg (N := 8) ?hd (cs := #[.int .i64 0, .int .i64 0, .int .i64 0, .int .i64 0]) (t := 35) ?hr ?_; (case hd => rfl); (case hg => rfl); (case hr => first | (go_simp; done) | (go_simp; rfl)); intro gb294 hg w38 hbox hb; have n0_ := Aside0.mk (blk_below (g := gb289) (o := .cells #[.int .i64 a0_0, .int .i64 a0_1, .int .i64 a0_2, .slice (some ad291) l0_3.length c0_3] 24 (0, 0)) (by (with_reducible repeat (first | refine blk_drewN ?_ _ | refine blk_drew ?_ | refine blk_alloc ?_ _)); exact BK289.out) hb); have n1_ := Aside0.mk (blk_below (g := gb290) (o := .cells #[.int .i64 a1_0, .int .i64 a1_1, .int .i64 a1_2, .slice (some ad292) l1_3.length c1_3] 24 (0, 0)) (by (with_reducible repeat (first | refine blk_drewN ?_ _ | refine blk_drew ?_ | refine blk_alloc ?_ _)); exact BK290.out) hb); have n2_ := Aside0.mk (below_step (by repeat (first | (with_reducible first | exact HB.out | apply below_alloc | apply pw_below_drewN | apply below_drew1 | refine below_set ?_ GE289.out | refine below_set ?_ GE290.out) | exact HB.out)) hb); have n3_ := Aside0.mk (hbox); have n4_ := Aside0.mk ((by rw [hg]; exact (below_size (by repeat (first | (with_reducible first | exact HB.out | apply below_alloc | apply pw_below_drewN | apply below_drew1 | refine below_set ?_ GE289.out | refine below_set ?_ GE290.out) | exact HB.out))) : w.heap.size ≤ gb294)); have n5_ := Aside0.mk ((by rw [hg]; exact (below_size (by repeat (first | (with_reducible first | exact HB.out | apply below_alloc | apply pw_below_drewN | apply below_drew1 | refine below_set ?_ GE289.out | refine below_set ?_ GE290.out) | exact HB.out))) : w.heap.size ≤ gb294)); have n6_ := Aside0.mk ((by rw [hg]; exact Nat.ne_of_lt (blk_lt (g := gb289) (o := .cells #[.int .i64 a0_0, .int .i64 a0_1, .int .i64 a0_2, .slice (some ad291) l0_3.length c0_3] 24 (0, 0)) (by (with_reducible repeat (first | refine blk_drewN ?_ _ | refine blk_drew ?_ | refine blk_alloc ?_ _)); exact BK289.out)) : gb289 ≠ gb294)); have n7_ := Aside0.mk ((by rw [hg]; exact Nat.ne_of_gt (blk_lt (g := gb289) (o := .cells #[.int .i64 a0_0, .int .i64 a0_1, .int .i64 a0_2, .slice (some ad291) l0_3.length c0_3] 24 (0, 0)) (by (with_reducible repeat (first | refine blk_drewN ?_ _ | refine blk_drew ?_ | refine blk_alloc ?_ _)); exact BK289.out)) : gb294 ≠ gb289)); have n8_ := Aside0.mk ((by rw [hg]; exact Nat.ne_of_lt (blk_lt (g := gb290) (o := .cells #[.int .i64 a1_0, .int .i64 a1_1, .int .i64 a1_2, .slice (some ad292) l1_3.length c1_3] 24 (0, 0)) (by (with_reducible repeat (first | refine blk_drewN ?_ _ | refine blk_drew ?_ | refine blk_alloc ?_ _)); exact BK290.out)) : gb290 ≠ gb294)); have n9_ := Aside0.mk ((by rw [hg]; exact Nat.ne_of_gt (blk_lt (g := gb290) (o := .cells #[.int .i64 a1_0, .int .i64 a1_1, .int .i64 a1_2, .slice (some ad292) l1_3.length c1_3] 24 (0, 0)) (by (with_reducible repeat (first | refine blk_drewN ?_ _ | refine blk_drew ?_ | refine blk_alloc ?_ _)); exact BK290.out)) : gb294 ≠ gb290)); clear BK289; clear BK290; clear HB; have BK289 := n0_; have BK290 := n1_; have HB := n2_; have BK294 := n3_; have GW294 := n4_; have GE294 := n5_; have NB289_294 := n6_; have NB294_289 := n7_; have NB290_294 := n8_; have NB294_290 := n9_; clear n0_ n1_ n2_ n3_ n4_ n5_ n6_ n7_ n8_ n9_; clear hb hbox hg; have hnb39 := NB294_289.out; have hnc39 := NB289_294.out; have hnb40 := NB294_290.out; have hnc40 := NB290_294.out; have hcz41_0 : w38.cell? ⟨gb294, 0, none⟩ = some (.int .i64 0) := (blk_cell BK294.out 0).trans rfl; have hcz41_1 : w38.cell? ⟨gb294, 1, none⟩ = some (.int .i64 0) := (blk_cell BK294.out 1).trans rfl; have hcz41_2 : w38.cell? ⟨gb294, 2, none⟩ = some (.int .i64 0) := (blk_cell BK294.out 2).trans rfl; have hcz41_3 : w38.cell? ⟨gb294, 3, none⟩ = some (.int .i64 0) := (blk_cell BK294.out 3).trans rfl; have hfz41_0 := blk_frozen BK294.out 0; have hfz41_1 := blk_frozen BK294.out 1; have hfz41_2 := blk_frozen BK294.out 2; have hfz41_3 := blk_frozen BK294.out 3; have hnb42 := NB290_289.out; have hnc42 := NB289_290.out; have hcz43_0 : w38.cell? ⟨gb290, 0, none⟩ = some (.int .i64 a1_0) := (blk_cell BK290.out 0).trans rfl; have hcz43_1 : w38.cell? ⟨gb290, 1, none⟩ = some (.int .i64 a1_1) := (blk_cell BK290.out 1).trans rfl; have hcz43_2 : w38.cell? ⟨gb290, 2, none⟩ = some (.int .i64 a1_2) := (blk_cell BK290.out 2).trans rfl; have hcz43_3 : w38.cell? ⟨gb290, 3, none⟩ = some (.slice (some ad292) l1_3.length c1_3) := (blk_cell BK290.out 3).trans rfl; have hfz43_0 := blk_frozen BK290.out 0; have hfz43_1 := blk_frozen BK290.out 1; have hfz43_2 := blk_frozen BK290.out 2; have hfz43_3 := blk_frozen BK290.out 3; have p295 : 0 ≤ (x40_2 : Int) := of_decide_eq_true (by first | (with_reducible assumption) | assumption); have q295 : x40_2 < (l1_3.length : Int) := of_decide_eq_true (by first | (with_reducible assumption) | assumption); obtain ⟨ad295, A295_0, c295_0, e295, hx295_0, hl295_0, hi295_0⟩ := at_L2 HR1_3.out x40_2 p295 q295; obtain rfl : ad292 = ad295 := (by injection e295); have hn295_0 : ad292.block ≠ gb294 := Nat.ne_of_lt (Nat.lt_of_lt_of_le (by have := World.block_lt_of_cell? _ _ hx295_0; first | rwa [add_block] at this | exact this) GW294.out); have hn295_1 : ad292.block ≠ gb294 := Nat.ne_of_lt (Nat.lt_of_lt_of_le (by have := World.block_lt_of_cell? _ _ hx295_0; first | rwa [add_block] at this | exact this) GW294.out); have hn295_2 : ad292.block ≠ gb294 := Nat.ne_of_lt (Nat.lt_of_lt_of_le (by have := World.block_lt_of_cell? _ _ hx295_0; first | rwa [add_block] at this | exact this) GW294.out); have hn295_3 : ad292.block ≠ gb294 := Nat.ne_of_lt (Nat.lt_of_lt_of_le (by have := World.block_lt_of_cell? _ _ hx295_0; first | rwa [add_block] at this | exact this) GW294.out); try replace hx295_0 := (HB.out.cell (World.block_lt_of_cell? w _ hx295_0)).trans hx295_0; have HR295_0 := Aside0.mk hi295_0; have HC295_0 := Aside0.mk hl295_0; clear hi295_0 hl295_0; replace hx295_0 := (cell_far (p := ⟨gb294, 0, none⟩) (by first | (rw [add_block]; exact hn295_0) | (show (Addr.add _ _).block ≠ _; rw [add_block]; exact hn295_0) | exact hn295_0) (.int .i64 ((rd_T35 (rd_L2 l0_3 x40_2) x56_3).f0))).trans hx295_0; replace hx295_0 := (cell_far (p := ⟨gb294, 1, none⟩) (by first | (rw [add_block]; exact hn295_1) | (show (Addr.add _ _).block ≠ _; rw [add_block]; exact hn295_1) | exact hn295_1) (.int .i64 ((rd_T35 (rd_L2 l0_3 x40_2) x56_3).f1))).trans hx295_0; replace hx295_0 := (cell_far (p := ⟨gb294, 2, none⟩) (by first | (rw [add_block]; exact hn295_2) | (show (Addr.add _ _).block ≠ _; rw [add_block]; exact hn295_2) | exact hn295_2) (.int .i64 ((rd_T35 (rd_L2 l0_3 x40_2) x56_3).f2))).trans hx295_0; replace hx295_0 := (cell_far (p := ⟨gb294, 3, none⟩) (by first | (rw [add_block]; exact hn295_3) | (show (Addr.add _ _).block ≠ _; rw [add_block]; exact hn295_3) | exact hn295_3) (.int .i64 ((rd_T35 (rd_L2 l0_3 x40_2) x56_3).f3))).trans hx295_0; (try have hy295_0 := fun (n_ : Nat) => (show ((((((w38.drewN n_).setCell ⟨gb294, 0, none⟩ (.int .i64 ((rd_T35 (rd_L2 l0_3 x40_2) x56_3).f0))).setCell ⟨gb294, 1, none⟩ (.int .i64 ((rd_T35 (rd_L2 l0_3 x40_2) x56_3).f1))).setCell ⟨gb294, 2, none⟩ (.int .i64 ((rd_T35 (rd_L2 l0_3 x40_2) x56_3).f2))).setCell ⟨gb294, 3, none⟩ (.int .i64 ((rd_T35 (rd_L2 l0_3 x40_2) x56_3).f3)))).cell? _ = some _ from hx295_0)); clear hn295_0; clear hn295_1; clear hn295_2; clear hn295_3; replace p295 := eq_true p295; replace q295 := eq_true q295; have p296 : 0 ≤ (x56_3 : Int) := of_decide_eq_true (by first | (with_reducible assumption) | assumption); have q296 : x56_3 < ((rd_L2 l1_3 x40_2).length : Int) := of_decide_eq_true (by first | (with_reducible assumption) | assumption); obtain ⟨ad296, e296, hx296_0, hx296_1, hx296_2, hx296_3⟩ := at_T35 HR295_0.out x56_3 p296 q296; cases e296; have hn296_0 : ad296.block ≠ gb294 := Nat.ne_of_lt (Nat.lt_of_lt_of_le (by have := World.block_lt_of_cell? _ _ hx296_0; first | rwa [add_block] at this | exact this) GW294.out); have hn296_1 : ad296.block ≠ gb294 := Nat.ne_of_lt (Nat.lt_of_lt_of_le (by have := World.block_lt_of_cell? _ _ hx296_0; first | rwa [add_block] at this | exact this) GW294.out); have hn296_2 : ad296.block ≠ gb294 := Nat.ne_of_lt (Nat.lt_of_lt_of_le (by have := World.block_lt_of_cell? _ _ hx296_0; first | rwa [add_block] at this | exact this) GW294.out); have hn296_3 : ad296.block ≠ gb294 := Nat.ne_of_lt (Nat.lt_of_lt_of_le (by have := World.block_lt_of_cell? _ _ hx296_0; first | rwa [add_block] at this | exact this) GW294.out); try replace hx296_0 := (HB.out.cell (World.block_lt_of_cell? w _ hx296_0)).trans hx296_0; try replace hx296_1 := (HB.out.cell (World.block_lt_of_cell? w _ hx296_1)).trans hx296_1; try replace hx296_2 := (HB.out.cell (World.block_lt_of_cell? w _ hx296_2)).trans hx296_2; try replace hx296_3 := (HB.out.cell (World.block_lt_of_cell? w _ hx296_3)).trans hx296_3; replace hx296_0 := (cell_far (p := ⟨gb294, 0, none⟩) (by first | (rw [add_block]; exact hn296_0) | (show (Addr.add _ _).block ≠ _; rw [add_block]; exact hn296_0) | exact hn296_0) (.int .i64 ((rd_T35 (rd_L2 l0_3 x40_2) x56_3).f0))).trans hx296_0; replace hx296_1 := (cell_far (p := ⟨gb294, 0, none⟩) (by first | (rw [add_block]; exact hn296_0) | (show (Addr.add _ _).block ≠ _; rw [add_block]; exact hn296_0) | exact hn296_0) (.int .i64 ((rd_T35 (rd_L2 l0_3 x40_2) x56_3).f0))).trans hx296_1; replace hx296_2 := (cell_far (p := ⟨gb294, 0, none⟩) (by first | (rw [add_block]; exact hn296_0) | (show (Addr.add _ _).block ≠ _; rw [add_block]; exact hn296_0) | exact hn296_0) (.int .i64 ((rd_T35 (rd_L2 l0_3 x40_2) x56_3).f0))).trans hx296_2; replace hx296_3 := (cell_far (p := ⟨gb294, 0, none⟩) (by first | (rw [add_block]; exact hn296_0) | (show (Addr.add _ _).block ≠ _; rw [add_block]; exact hn296_0) | exact hn296_0) (.int .i64 ((rd_T35 (rd_L2 l0_3 x40_2) x56_3).f0))).trans hx296_3; replace hx296_0 := (cell_far (p := ⟨gb294, 1, none⟩) (by first | (rw [add_block]; exact hn296_1) | (show (Addr.add _ _).block ≠ _; rw [add_block]; exact hn296_1) | exact hn296_1) (.int .i64 ((rd_T35 (rd_L2 l0_3 x40_2) x56_3).f1))).trans hx296_0; replace hx296_1 := (cell_far (p := ⟨gb294, 1, none⟩) (by first | (rw [add_block]; exact hn296_1) | (show (Addr.add _ _).block ≠ _; rw [add_block]; exact hn296_1) | exact hn296_1) (.int .i64 ((rd_T35 (rd_L2 l0_3 x40_2) x56_3).f1))).trans hx296_1; replace hx296_2 := (cell_far (p := ⟨gb294, 1, none⟩) (by first | (rw [add_block]; exact hn296_1) | (show (Addr.add _ _).block ≠ _; rw [add_block]; exact hn296_1) | exact hn296_1) (.int .i64 ((rd_T35 (rd_L2 l0_3 x40_2) x56_3).f1))).trans hx296_2; replace hx296_3 := (cell_far (p := ⟨gb294, 1, none⟩) (by first | (rw [add_block]; exact hn296_1) | (show (Addr.add _ _).block ≠ _; rw [add_block]; exact hn296_1) | exact hn296_1) (.int .i64 ((rd_T35 (rd_L2 l0_3 x40_2) x56_3).f1))).trans hx296_3; replace hx296_0 := (cell_far (p := ⟨gb294, 2, none⟩) (by first | (rw [add_block]; exact hn296_2) | (show (Addr.add _ _).block ≠ _; rw [add_block]; exact hn296_2) | exact hn296_2) (.int .i64 ((rd_T35 (rd_L2 l0_3 x40_2) x56_3).f2))).trans hx296_0; replace hx296_1 := (cell_far (p := ⟨gb294, 2, none⟩) (by first | (rw [add_block]; exact hn296_2) | (show (Addr.add _ _).block ≠ _; rw [add_block]; exact hn296_2) | exact hn296_2) (.int .i64 ((rd_T35 (rd_L2 l0_3 x40_2) x56_3).f2))).trans hx296_1; replace hx296_2 := (cell_far (p := ⟨gb294, 2, none⟩) (by first | (rw [add_block]; exact hn296_2) | (show (Addr.add _ _).block ≠ _; rw [add_block]; exact hn296_2) | exact hn296_2) (.int .i64 ((rd_T35 (rd_L2 l0_3 x40_2) x56_3).f2))).trans hx296_2; replace hx296_3 := (cell_far (p := ⟨gb294, 2, none⟩) (by first | (rw [add_block]; exact hn296_2) | (show (Addr.add _ _).block ≠ _; rw [add_block]; exact hn296_2) | exact hn296_2) (.int .i64 ((rd_T35 (rd_L2 l0_3 x40_2) x56_3).f2))).trans hx296_3; replace hx296_0 := (cell_far (p := ⟨gb294, 3, none⟩) (by first | (rw [add_block]; exact hn296_3) | (show (Addr.add _ _).block ≠ _; rw [add_block]; exact hn296_3) | exact hn296_3) (.int .i64 ((rd_T35 (rd_L2 l0_3 x40_2) x56_3).f3))).trans hx296_0; replace hx296_1 := (cell_far (p := ⟨gb294, 3, none⟩) (by first | (rw [add_block]; exact hn296_3) | (show (Addr.add _ _).block ≠ _; rw [add_block]; exact hn296_3) | exact hn296_3) (.int .i64 ((rd_T35 (rd_L2 l0_3 x40_2) x56_3).f3))).trans hx296_1; replace hx296_2 := (cell_far (p := ⟨gb294, 3, none⟩) (by first | (rw [add_block]; exact hn296_3) | (show (Addr.add _ _).block ≠ _; rw [add_block]; exact hn296_3) | exact hn296_3) (.int .i64 ((rd_T35 (rd_L2 l0_3 x40_2) x56_3).f3))).trans hx296_2; replace hx296_3 := (cell_far (p := ⟨gb294, 3, none⟩) (by first | (rw [add_block]; exact hn296_3) | (show (Addr.add _ _).block ≠ _; rw [add_block]; exact hn296_3) | exact hn296_3) (.int .i64 ((rd_T35 (rd_L2 l0_3 x40_2) x56_3).f3))).trans hx296_3; (try have hy296_0 := fun (n_ : Nat) => (show ((((((w38.drewN n_).setCell ⟨gb294, 0, none⟩ (.int .i64 ((rd_T35 (rd_L2 l0_3 x40_2) x56_3).f0))).setCell ⟨gb294, 1, none⟩ (.int .i64 ((rd_T35 (rd_L2 l0_3 x40_2) x56_3).f1))).setCell ⟨gb294, 2, none⟩ (.int .i64 ((rd_T35 (rd_L2 l0_3 x40_2) x56_3).f2))).setCell ⟨gb294, 3, none⟩ (.int .i64 ((rd_T35 (rd_L2 l0_3 x40_2) x56_3).f3)))).cell? _ = some _ from hx296_0)); (try have hy296_1 := fun (n_ : Nat) => (show ((((((w38.drewN n_).setCell ⟨gb294, 0, none⟩ (.int .i64 ((rd_T35 (rd_L2 l0_3 x40_2) x56_3).f0))).setCell ⟨gb294, 1, none⟩ (.int .i64 ((rd_T35 (rd_L2 l0_3 x40_2) x56_3).f1))).setCell ⟨gb294, 2, none⟩ (.int .i64 ((rd_T35 (rd_L2 l0_3 x40_2) x56_3).f2))).setCell ⟨gb294, 3, none⟩ (.int .i64 ((rd_T35 (rd_L2 l0_3 x40_2) x56_3).f3)))).cell? _ = some _ from hx296_1)); (try have hy296_2 := fun (n_ : Nat) => (show ((((((w38.drewN n_).setCell ⟨gb294, 0, none⟩ (.int .i64 ((rd_T35 (rd_L2 l0_3 x40_2) x56_3).f0))).setCell ⟨gb294, 1, none⟩ (.int .i64 ((rd_T35 (rd_L2 l0_3 x40_2) x56_3).f1))).setCell ⟨gb294, 2, none⟩ (.int .i64 ((rd_T35 (rd_L2 l0_3 x40_2) x56_3).f2))).setCell ⟨gb294, 3, none⟩ (.int .i64 ((rd_T35 (rd_L2 l0_3 x40_2) x56_3).f3)))).cell? _ = some _ from hx296_2)); (try have hy296_3 := fun (n_ : Nat) => (show ((((((w38.drewN n_).setCell ⟨gb294, 0, none⟩ (.int .i64 ((rd_T35 (rd_L2 l0_3 x40_2) x56_3).f0))).setCell ⟨gb294, 1, none⟩ (.int .i64 ((rd_T35 (rd_L2 l0_3 x40_2) x56_3).f1))).setCell ⟨gb294, 2, none⟩ (.int .i64 ((rd_T35 (rd_L2 l0_3 x40_2) x56_3).f2))).setCell ⟨gb294, 3, none⟩ (.int .i64 ((rd_T35 (rd_L2 l0_3 x40_2) x56_3).f3)))).cell? _ = some _ from hx296_3)); clear hn296_0; clear hn296_1; clear hn296_2; clear hn296_3; replace p296 := eq_true p296; replace q296 := eq_true q296))
                                        repeat (go_quiet (first | ((with_reducible refine gate_dst (N := 8) rfl ?_); (try (refine gate_guard (by rfl) ?_; dsimp only)); refine box_event ?hg (N := 8) ?hd (cs := #[.int .i64 0, .int .i64 0, .int .i64 0, .int .i64 0]) (t := 35) ?hr ?_; (case hd => rfl); (case hg => rfl); (case hr => first | (go_simp; done) | (go_simp; rfl)); intro gb294 hg w38 hbox hb; have n0_ := Aside0.mk (blk_below (g := gb289) (o := .cells #[.int .i64 a0_0, .int .i64 a0_1, .int .i64 a0_2, .slice (some ad291) l0_3.length c0_3] 24 (0, 0)) (by (with_reducible repeat (first | refine blk_drewN ?_ _ | refine blk_drew ?_ | refine blk_alloc ?_ _)); exact BK289.out) hb); have n1_ := Aside0.mk (blk_below (g := gb290) (o := .cells #[.int .i64 a1_0, .int .i64 a1_1, .int .i64 a1_2, .slice (some ad292) l1_3.length c1_3] 24 (0, 0)) (by (with_reducible repeat (first | refine blk_drewN ?_ _ | refine blk_drew ?_ | refine blk_alloc ?_ _)); exact BK290.out) hb); have n2_ := Aside0.mk (below_step (by repeat (first | (with_reducible first | exact HB.out | apply below_alloc | apply pw_below_drewN | apply below_drew1 | refine below_set ?_ GE289.out | refine below_set ?_ GE290.out) | exact HB.out)) hb); have n3_ := Aside0.mk (hbox); have n4_ := Aside0.mk ((by rw [hg]; exact (below_size (by repeat (first | (with_reducible first | exact HB.out | apply below_alloc | apply pw_below_drewN | apply below_drew1 | refine below_set ?_ GE289.out | refine below_set ?_ GE290.out) | exact HB.out))) : w.heap.size ≤ gb294)); have n5_ := Aside0.mk ((by rw [hg]; exact (below_size (by repeat (first | (with_reducible first | exact HB.out | apply below_alloc | apply pw_below_drewN | apply below_drew1 | refine below_set ?_ GE289.out | refine below_set ?_ GE290.out) | exact HB.out))) : w.heap.size ≤ gb294)); have n6_ := Aside0.mk ((by rw [hg]; exact Nat.ne_of_lt (blk_lt (g := gb289) (o := .cells #[.int .i64 a0_0, .int .i64 a0_1, .int .i64 a0_2, .slice (some ad291) l0_3.length c0_3] 24 (0, 0)) (by (with_reducible repeat (first | refine blk_drewN ?_ _ | refine blk_drew ?_ | refine blk_alloc ?_ _)); exact BK289.out)) : gb289 ≠ gb294)); have n7_ := Aside0.mk ((by rw [hg]; exact Nat.ne_of_gt (blk_lt (g := gb289) (o := .cells #[.int .i64 a0_0, .int .i64 a0_1, .int .i64 a0_2, .slice (some ad291) l0_3.length c0_3] 24 (0, 0)) (by (with_reducible repeat (first | refine blk_drewN ?_ _ | refine blk_drew ?_ | refine blk_alloc ?_ _)); exact BK289.out)) : gb294 ≠ gb289)); have n8_ := Aside0.mk ((by rw [hg]; exact Nat.ne_of_lt (blk_lt (g := gb290) (o := .cells #[.int .i64 a1_0, .int .i64 a1_1, .int .i64 a1_2, .slice (some ad292) l1_3.length c1_3] 24 (0, 0)) (by (with_reducible repeat (first | refine blk_drewN ?_ _ | refine blk_drew ?_ | refine blk_alloc ?_ _)); exact BK290.out)) : gb290 ≠ gb294)); have n9_ := Aside0.mk ((by rw [hg]; exact Nat.ne_of_gt (blk_lt (g := gb290) (o := .cells #[.int .i64 a1_0, .int .i64 a1_1, .int .i64 a1_2, .slice (some ad292) l1_3.length c1_3] 24 (0, 0)) (by (with_reducible repeat (first | refine blk_drewN ?_ _ | refine blk_drew ?_ | refine blk_alloc ?_ _)); exact BK290.out)) : gb294 ≠ gb290)); clear BK289; clear BK290; clear HB; have BK289 := n0_; have BK290 := n1_; have HB := n2_; have BK294 := n3_; have GW294 := n4_; have GE294 := n5_; have NB289_294 := n6_; have NB294_289 := n7_; have NB290_294 := n8_; have NB294_290 := n9_; clear n0_ n1_ n2_ n3_ n4_ n5_ n6_ n7_ n8_ n9_; clear hb hbox hg; have hnb39 := NB294_289.out; have hnc39 := NB289_294.out; have hnb40 := NB294_290.out; have hnc40 := NB290_294.out; have hcz41_0 : w38.cell? ⟨gb294, 0, none⟩ = some (.int .i64 0) := (blk_cell BK294.out 0).trans rfl; have hcz41_1 : w38.cell? ⟨gb294, 1, none⟩ = some (.int .i64 0) := (blk_cell BK294.out 1).trans rfl; have hcz41_2 : w38.cell? ⟨gb294, 2, none⟩ = some (.int .i64 0) := (blk_cell BK294.out 2).trans rfl; have hcz41_3 : w38.cell? ⟨gb294, 3, none⟩ = some (.int .i64 0) := (blk_cell BK294.out 3).trans rfl; have hfz41_0 := blk_frozen BK294.out 0; have hfz41_1 := blk_frozen BK294.out 1; have hfz41_2 := blk_frozen BK294.out 2; have hfz41_3 := blk_frozen BK294.out 3; have hnb42 := NB290_289.out; have hnc42 := NB289_290.out; have hcz43_0 : w38.cell? ⟨gb290, 0, none⟩ = some (.int .i64 a1_0) := (blk_cell BK290.out 0).trans rfl; have hcz43_1 : w38.cell? ⟨gb290, 1, none⟩ = some (.int .i64 a1_1) := (blk_cell BK290.out 1).trans rfl; have hcz43_2 : w38.cell? ⟨gb290, 2, none⟩ = some (.int .i64 a1_2) := (blk_cell BK290.out 2).trans rfl; have hcz43_3 : w38.cell? ⟨gb290, 3, none⟩ = some (.slice (some ad292) l1_3.length c1_3) := (blk_cell BK290.out 3).trans rfl; have hfz43_0 := blk_frozen BK290.out 0; have hfz43_1 := blk_frozen BK290.out 1; have hfz43_2 := blk_frozen BK290.out 2; have hfz43_3 := blk_frozen BK290.out 3; have p295 : 0 ≤ (x40_2 : Int) := of_decide_eq_true (by first | (with_reducible assumption) | assumption); have q295 : x40_2 < (l1_3.length : Int) := of_decide_eq_true (by first | (with_reducible assumption) | assumption); obtain ⟨ad295, A295_0, c295_0, e295, hx295_0, hl295_0, hi295_0⟩ := at_L2 HR1_3.out x40_2 p295 q295; obtain rfl : ad292 = ad295 := (by injection e295); have hn295_0 : ad292.block ≠ gb294 := Nat.ne_of_lt (Nat.lt_of_lt_of_le (by have := World.block_lt_of_cell? _ _ hx295_0; first | rwa [add_block] at this | exact this) GW294.out); have hn295_1 : ad292.block ≠ gb294 := Nat.ne_of_lt (Nat.lt_of_lt_of_le (by have := World.block_lt_of_cell? _ _ hx295_0; first | rwa [add_block] at this | exact this) GW294.out); have hn295_2 : ad292.block ≠ gb294 := Nat.ne_of_lt (Nat.lt_of_lt_of_le (by have := World.block_lt_of_cell? _ _ hx295_0; first | rwa [add_block] at this | exact this) GW294.out); have hn295_3 : ad292.block ≠ gb294 := Nat.ne_of_lt (Nat.lt_of_lt_of_le (by have := World.block_lt_of_cell? _ _ hx295_0; first | rwa [add_block] at this | exact this) GW294.out); try replace hx295_0 := (HB.out.cell (World.block_lt_of_cell? w _ hx295_0)).trans hx295_0; have HR295_0 := Aside0.mk hi295_0; have HC295_0 := Aside0.mk hl295_0; clear hi295_0 hl295_0; replace hx295_0 := (cell_far (p := ⟨gb294, 0, none⟩) (by first | (rw [add_block]; exact hn295_0) | (show (Addr.add _ _).block ≠ _; rw [add_block]; exact hn295_0) | exact hn295_0) (.int .i64 ((rd_T35 (rd_L2 l0_3 x40_2) x56_3).f0))).trans hx295_0; replace hx295_0 := (cell_far (p := ⟨gb294, 1, none⟩) (by first | (rw [add_block]; exact hn295_1) | (show (Addr.add _ _).block ≠ _; rw [add_block]; exact hn295_1) | exact hn295_1) (.int .i64 ((rd_T35 (rd_L2 l0_3 x40_2) x56_3).f1))).trans hx295_0; replace hx295_0 := (cell_far (p := ⟨gb294, 2, none⟩) (by first | (rw [add_block]; exact hn295_2) | (show (Addr.add _ _).block ≠ _; rw [add_block]; exact hn295_2) | exact hn295_2) (.int .i64 ((rd_T35 (rd_L2 l0_3 x40_2) x56_3).f2))).trans hx295_0; replace hx295_0 := (cell_far (p := ⟨gb294, 3, none⟩) (by first | (rw [add_block]; exact hn295_3) | (show (Addr.add _ _).block ≠ _; rw [add_block]; exact hn295_3) | exact hn295_3) (.int .i64 ((rd_T35 (rd_L2 l0_3 x40_2) x56_3).f3))).trans hx295_0; (try have hy295_0 := fun (n_ : Nat) => (show ((((((w38.drewN n_).setCell ⟨gb294, 0, none⟩ (.int .i64 ((rd_T35 (rd_L2 l0_3 x40_2) x56_3).f0))).setCell ⟨gb294, 1, none⟩ (.int .i64 ((rd_T35 (rd_L2 l0_3 x40_2) x56_3).f1))).setCell ⟨gb294, 2, none⟩ (.int .i64 ((rd_T35 (rd_L2 l0_3 x40_2) x56_3).f2))).setCell ⟨gb294, 3, none⟩ (.int .i64 ((rd_T35 (rd_L2 l0_3 x40_2) x56_3).f3)))).cell? _ = some _ from hx295_0)); clear hn295_0; clear hn295_1; clear hn295_2; clear hn295_3; replace p295 := eq_true p295; replace q295 := eq_true q295; have p296 : 0 ≤ (x56_3 : Int) := of_decide_eq_true (by first | (with_reducible assumption) | assumption); have q296 : x56_3 < ((rd_L2 l1_3 x40_2).length : Int) := of_decide_eq_true (by first | (with_reducible assumption) | assumption); obtain ⟨ad296, e296, hx296_0, hx296_1, hx296_2, hx296_3⟩ := at_T35 HR295_0.out x56_3 p296 q296; cases e296; have hn296_0 : ad296.block ≠ gb294 := Nat.ne_of_lt (Nat.lt_of_lt_of_le (by have := World.block_lt_of_cell? _ _ hx296_0; first | rwa [add_block] at this | exact this) GW294.out); have hn296_1 : ad296.block ≠ gb294 := Nat.ne_of_lt (Nat.lt_of_lt_of_le (by have := World.block_lt_of_cell? _ _ hx296_0; first | rwa [add_block] at this | exact this) GW294.out); have hn296_2 : ad296.block ≠ gb294 := Nat.ne_of_lt (Nat.lt_of_lt_of_le (by have := World.block_lt_of_cell? _ _ hx296_0; first | rwa [add_block] at this | exact this) GW294.out); have hn296_3 : ad296.block ≠ gb294 := Nat.ne_of_lt (Nat.lt_of_lt_of_le (by have := World.block_lt_of_cell? _ _ hx296_0; first | rwa [add_block] at this | exact this) GW294.out); try replace hx296_0 := (HB.out.cell (World.block_lt_of_cell? w _ hx296_0)).trans hx296_0; try replace hx296_1 := (HB.out.cell (World.block_lt_of_cell? w _ hx296_1)).trans hx296_1; try replace hx296_2 := (HB.out.cell (World.block_lt_of_cell? w _ hx296_2)).trans hx296_2; try replace hx296_3 := (HB.out.cell (World.block_lt_of_cell? w _ hx296_3)).trans hx296_3; replace hx296_0 := (cell_far (p := ⟨gb294, 0, none⟩) (by first | (rw [add_block]; exact hn296_0) | (show (Addr.add _ _).block ≠ _; rw [add_block]; exact hn296_0) | exact hn296_0) (.int .i64 ((rd_T35 (rd_L2 l0_3 x40_2) x56_3).f0))).trans hx296_0; replace hx296_1 := (cell_far (p := ⟨gb294, 0, none⟩) (by first | (rw [add_block]; exact hn296_0) | (show (Addr.add _ _).block ≠ _; rw [add_block]; exact hn296_0) | exact hn296_0) (.int .i64 ((rd_T35 (rd_L2 l0_3 x40_2) x56_3).f0))).trans hx296_1; replace hx296_2 := (cell_far (p := ⟨gb294, 0, none⟩) (by first | (rw [add_block]; exact hn296_0) | (show (Addr.add _ _).block ≠ _; rw [add_block]; exact hn296_0) | exact hn296_0) (.int .i64 ((rd_T35 (rd_L2 l0_3 x40_2) x56_3).f0))).trans hx296_2; replace hx296_3 := (cell_far (p := ⟨gb294, 0, none⟩) (by first | (rw [add_block]; exact hn296_0) | (show (Addr.add _ _).block ≠ _; rw [add_block]; exact hn296_0) | exact hn296_0) (.int .i64 ((rd_T35 (rd_L2 l0_3 x40_2) x56_3).f0))).trans hx296_3; replace hx296_0 := (cell_far (p := ⟨gb294, 1, none⟩) (by first | (rw [add_block]; exact hn296_1) | (show (Addr.add _ _).block ≠ _; rw [add_block]; exact hn296_1) | exact hn296_1) (.int .i64 ((rd_T35 (rd_L2 l0_3 x40_2) x56_3).f1))).trans hx296_0; replace hx296_1 := (cell_far (p := ⟨gb294, 1, none⟩) (by first | (rw [add_block]; exact hn296_1) | (show (Addr.add _ _).block ≠ _; rw [add_block]; exact hn296_1) | exact hn296_1) (.int .i64 ((rd_T35 (rd_L2 l0_3 x40_2) x56_3).f1))).trans hx296_1; replace hx296_2 := (cell_far (p := ⟨gb294, 1, none⟩) (by first | (rw [add_block]; exact hn296_1) | (show (Addr.add _ _).block ≠ _; rw [add_block]; exact hn296_1) | exact hn296_1) (.int .i64 ((rd_T35 (rd_L2 l0_3 x40_2) x56_3).f1))).trans hx296_2; replace hx296_3 := (cell_far (p := ⟨gb294, 1, none⟩) (by first | (rw [add_block]; exact hn296_1) | (show (Addr.add _ _).block ≠ _; rw [add_block]; exact hn296_1) | exact hn296_1) (.int .i64 ((rd_T35 (rd_L2 l0_3 x40_2) x56_3).f1))).trans hx296_3; replace hx296_0 := (cell_far (p := ⟨gb294, 2, none⟩) (by first | (rw [add_block]; exact hn296_2) | (show (Addr.add _ _).block ≠ _; rw [add_block]; exact hn296_2) | exact hn296_2) (.int .i64 ((rd_T35 (rd_L2 l0_3 x40_2) x56_3).f2))).trans hx296_0; replace hx296_1 := (cell_far (p := ⟨gb294, 2, none⟩) (by first | (rw [add_block]; exact hn296_2) | (show (Addr.add _ _).block ≠ _; rw [add_block]; exact hn296_2) | exact hn296_2) (.int .i64 ((rd_T35 (rd_L2 l0_3 x40_2) x56_3).f2))).trans hx296_1; replace hx296_2 := (cell_far (p := ⟨gb294, 2, none⟩) (by first | (rw [add_block]; exact hn296_2) | (show (Addr.add _ _).block ≠ _; rw [add_block]; exact hn296_2) | exact hn296_2) (.int .i64 ((rd_T35 (rd_L2 l0_3 x40_2) x56_3).f2))).trans hx296_2; replace hx296_3 := (cell_far (p := ⟨gb294, 2, none⟩) (by first | (rw [add_block]; exact hn296_2) | (show (Addr.add _ _).block ≠ _; rw [add_block]; exact hn296_2) | exact hn296_2) (.int .i64 ((rd_T35 (rd_L2 l0_3 x40_2) x56_3).f2))).trans hx296_3; replace hx296_0 := (cell_far (p := ⟨gb294, 3, none⟩) (by first | (rw [add_block]; exact hn296_3) | (show (Addr.add _ _).block ≠ _; rw [add_block]; exact hn296_3) | exact hn296_3) (.int .i64 ((rd_T35 (rd_L2 l0_3 x40_2) x56_3).f3))).trans hx296_0; replace hx296_1 := (cell_far (p := ⟨gb294, 3, none⟩) (by first | (rw [add_block]; exact hn296_3) | (show (Addr.add _ _).block ≠ _; rw [add_block]; exact hn296_3) | exact hn296_3) (.int .i64 ((rd_T35 (rd_L2 l0_3 x40_2) x56_3).f3))).trans hx296_1; replace hx296_2 := (cell_far (p := ⟨gb294, 3, none⟩) (by first | (rw [add_block]; exact hn296_3) | (show (Addr.add _ _).block ≠ _; rw [add_block]; exact hn296_3) | exact hn296_3) (.int .i64 ((rd_T35 (rd_L2 l0_3 x40_2) x56_3).f3))).trans hx296_2; replace hx296_3 := (cell_far (p := ⟨gb294, 3, none⟩) (by first | (rw [add_block]; exact hn296_3) | (show (Addr.add _ _).block ≠ _; rw [add_block]; exact hn296_3) | exact hn296_3) (.int .i64 ((rd_T35 (rd_L2 l0_3 x40_2) x56_3).f3))).trans hx296_3; (try have hy296_0 := fun (n_ : Nat) => (show ((((((w38.drewN n_).setCell ⟨gb294, 0, none⟩ (.int .i64 ((rd_T35 (rd_L2 l0_3 x40_2) x56_3).f0))).setCell ⟨gb294, 1, none⟩ (.int .i64 ((rd_T35 (rd_L2 l0_3 x40_2) x56_3).f1))).setCell ⟨gb294, 2, none⟩ (.int .i64 ((rd_T35 (rd_L2 l0_3 x40_2) x56_3).f2))).setCell ⟨gb294, 3, none⟩ (.int .i64 ((rd_T35 (rd_L2 l0_3 x40_2) x56_3).f3)))).cell? _ = some _ from hx296_0)); (try have hy296_1 := fun (n_ : Nat) => (show ((((((w38.drewN n_).setCell ⟨gb294, 0, none⟩ (.int .i64 ((rd_T35 (rd_L2 l0_3 x40_2) x56_3).f0))).setCell ⟨gb294, 1, none⟩ (.int .i64 ((rd_T35 (rd_L2 l0_3 x40_2) x56_3).f1))).setCell ⟨gb294, 2, none⟩ (.int .i64 ((rd_T35 (rd_L2 l0_3 x40_2) x56_3).f2))).setCell ⟨gb294, 3, none⟩ (.int .i64 ((rd_T35 (rd_L2 l0_3 x40_2) x56_3).f3)))).cell? _ = some _ from hx296_1)); (try have hy296_2 := fun (n_ : Nat) => (show ((((((w38.drewN n_).setCell ⟨gb294, 0, none⟩ (.int .i64 ((rd_T35 (rd_L2 l0_3 x40_2) x56_3).f0))).setCell ⟨gb294, 1, none⟩ (.int .i64 ((rd_T35 (rd_L2 l0_3 x40_2) x56_3).f1))).setCell ⟨gb294, 2, none⟩ (.int .i64 ((rd_T35 (rd_L2 l0_3 x40_2) x56_3).f2))).setCell ⟨gb294, 3, none⟩ (.int .i64 ((rd_T35 (rd_L2 l0_3 x40_2) x56_3).f3)))).cell? _ = some _ from hx296_2)); (try have hy296_3 := fun (n_ : Nat) => (show ((((((w38.drewN n_).setCell ⟨gb294, 0, none⟩ (.int .i64 ((rd_T35 (rd_L2 l0_3 x40_2) x56_3).f0))).setCell ⟨gb294, 1, none⟩ (.int .i64 ((rd_T35 (rd_L2 l0_3 x40_2) x56_3).f1))).setCell ⟨gb294, 2, none⟩ (.int .i64 ((rd_T35 (rd_L2 l0_3 x40_2) x56_3).f2))).setCell ⟨gb294, 3, none⟩ (.int .i64 ((rd_T35 (rd_L2 l0_3 x40_2) x56_3).f3)))).cell? _ = some _ from hx296_3)); clear hn296_0; clear hn296_1; clear hn296_2; clear hn296_3; replace p296 := eq_true p296; replace q296 := eq_true q296)); try go_wp2_with (first | ((with_reducible refine gate_dst (N := 8) rfl ?_); (try (refine gate_guard (by rfl) ?_; dsimp only)); refine box_event ?hg (N := 8) ?hd (cs := #[.int .i64 0, .int .i64 0, .int .i64 0, .int .i64 0]) (t := 35) ?hr ?_; (case hd => rfl); (case hg => rfl); (case hr => first | (go_simp; done) | (go_simp; rfl)); intro gb294 hg w38 hbox hb; have n0_ := Aside0.mk (blk_below (g := gb289) (o := .cells #[.int .i64 a0_0, .int .i64 a0_1, .int .i64 a0_2, .slice (some ad291) l0_3.length c0_3] 24 (0, 0)) (by (with_reducible repeat (first | refine blk_drewN ?_ _ | refine blk_drew ?_ | refine blk_alloc ?_ _)); exact BK289.out) hb); have n1_ := Aside0.mk (blk_below (g := gb290) (o := .cells #[.int .i64 a1_0, .int .i64 a1_1, .int .i64 a1_2, .slice (some ad292) l1_3.length c1_3] 24 (0, 0)) (by (with_reducible repeat (first | refine blk_drewN ?_ _ | refine blk_drew ?_ | refine blk_alloc ?_ _)); exact BK290.out) hb); have n2_ := Aside0.mk (below_step (by repeat (first | (with_reducible first | exact HB.out | apply below_alloc | apply pw_below_drewN | apply below_drew1 | refine below_set ?_ GE289.out | refine below_set ?_ GE290.out) | exact HB.out)) hb); have n3_ := Aside0.mk (hbox); have n4_ := Aside0.mk ((by rw [hg]; exact (below_size (by repeat (first | (with_reducible first | exact HB.out | apply below_alloc | apply pw_below_drewN | apply below_drew1 | refine below_set ?_ GE289.out | refine below_set ?_ GE290.out) | exact HB.out))) : w.heap.size ≤ gb294)); have n5_ := Aside0.mk ((by rw [hg]; exact (below_size (by repeat (first | (with_reducible first | exact HB.out | apply below_alloc | apply pw_below_drewN | apply below_drew1 | refine below_set ?_ GE289.out | refine below_set ?_ GE290.out) | exact HB.out))) : w.heap.size ≤ gb294)); have n6_ := Aside0.mk ((by rw [hg]; exact Nat.ne_of_lt (blk_lt (g := gb289) (o := .cells #[.int .i64 a0_0, .int .i64 a0_1, .int .i64 a0_2, .slice (some ad291) l0_3.length c0_3] 24 (0, 0)) (by (with_reducible repeat (first | refine blk_drewN ?_ _ | refine blk_drew ?_ | refine blk_alloc ?_ _)); exact BK289.out)) : gb289 ≠ gb294)); have n7_ := Aside0.mk ((by rw [hg]; exact Nat.ne_of_gt (blk_lt (g := gb289) (o := .cells #[.int .i64 a0_0, .int .i64 a0_1, .int .i64 a0_2, .slice (some ad291) l0_3.length c0_3] 24 (0, 0)) (by (with_reducible repeat (first | refine blk_drewN ?_ _ | refine blk_drew ?_ | refine blk_alloc ?_ _)); exact BK289.out)) : gb294 ≠ gb289)); have n8_ := Aside0.mk ((by rw [hg]; exact Nat.ne_of_lt (blk_lt (g := gb290) (o := .cells #[.int .i64 a1_0, .int .i64 a1_1, .int .i64 a1_2, .slice (some ad292) l1_3.length c1_3] 24 (0, 0)) (by (with_reducible repeat (first | refine blk_drewN ?_ _ | refine blk_drew ?_ | refine blk_alloc ?_ _)); exact BK290.out)) : gb290 ≠ gb294)); have n9_ := Aside0.mk ((by rw [hg]; exact Nat.ne_of_gt (blk_lt (g := gb290) (o := .cells #[.int .i64 a1_0, .int .i64 a1_1, .int .i64 a1_2, .slice (some ad292) l1_3.length c1_3] 24 (0, 0)) (by (with_reducible repeat (first | refine blk_drewN ?_ _ | refine blk_drew ?_ | refine blk_alloc ?_ _)); exact BK290.out)) : gb294 ≠ gb290)); clear BK289; clear BK290; clear HB; have BK289 := n0_; have BK290 := n1_; have HB := n2_; have BK294 := n3_; have GW294 := n4_; have GE294 := n5_; have NB289_294 := n6_; have NB294_289 := n7_; have NB290_294 := n8_; have NB294_290 := n9_; clear n0_ n1_ n2_ n3_ n4_ n5_ n6_ n7_ n8_ n9_; clear hb hbox hg; have hnb39 := NB294_289.out; have hnc39 := NB289_294.out; have hnb40 := NB294_290.out; have hnc40 := NB290_294.out; have hcz41_0 : w38.cell? ⟨gb294, 0, none⟩ = some (.int .i64 0) := (blk_cell BK294.out 0).trans rfl; have hcz41_1 : w38.cell? ⟨gb294, 1, none⟩ = some (.int .i64 0) := (blk_cell BK294.out 1).trans rfl; have hcz41_2 : w38.cell? ⟨gb294, 2, none⟩ = some (.int .i64 0) := (blk_cell BK294.out 2).trans rfl; have hcz41_3 : w38.cell? ⟨gb294, 3, none⟩ = some (.int .i64 0) := (blk_cell BK294.out 3).trans rfl; have hfz41_0 := blk_frozen BK294.out 0; have hfz41_1 := blk_frozen BK294.out 1; have hfz41_2 := blk_frozen BK294.out 2; have hfz41_3 := blk_frozen BK294.out 3; have hnb42 := NB290_289.out; have hnc42 := NB289_290.out; have hcz43_0 : w38.cell? ⟨gb290, 0, none⟩ = some (.int .i64 a1_0) := (blk_cell BK290.out 0).trans rfl; have hcz43_1 : w38.cell? ⟨gb290, 1, none⟩ = some (.int .i64 a1_1) := (blk_cell BK290.out 1).trans rfl; have hcz43_2 : w38.cell? ⟨gb290, 2, none⟩ = some (.int .i64 a1_2) := (blk_cell BK290.out 2).trans rfl; have hcz43_3 : w38.cell? ⟨gb290, 3, none⟩ = some (.slice (some ad292) l1_3.length c1_3) := (blk_cell BK290.out 3).trans rfl; have hfz43_0 := blk_frozen BK290.out 0; have hfz43_1 := blk_frozen BK290.out 1; have hfz43_2 := blk_frozen BK290.out 2; have hfz43_3 := blk_frozen BK290.out 3; have p295 : 0 ≤ (x40_2 : Int) := of_decide_eq_true (by first | (with_reducible assumption) | assumption); have q295 : x40_2 < (l1_3.length : Int) := of_decide_eq_true (by first | (with_reducible assumption) | assumption); obtain ⟨ad295, A295_0, c295_0, e295, hx295_0, hl295_0, hi295_0⟩ := at_L2 HR1_3.out x40_2 p295 q295; obtain rfl : ad292 = ad295 := (by injection e295); have hn295_0 : ad292.block ≠ gb294 := Nat.ne_of_lt (Nat.lt_of_lt_of_le (by have := World.block_lt_of_cell? _ _ hx295_0; first | rwa [add_block] at this | exact this) GW294.out); have hn295_1 : ad292.block ≠ gb294 := Nat.ne_of_lt (Nat.lt_of_lt_of_le (by have := World.block_lt_of_cell? _ _ hx295_0; first | rwa [add_block] at this | exact this) GW294.out); have hn295_2 : ad292.block ≠ gb294 := Nat.ne_of_lt (Nat.lt_of_lt_of_le (by have := World.block_lt_of_cell? _ _ hx295_0; first | rwa [add_block] at this | exact this) GW294.out); have hn295_3 : ad292.block ≠ gb294 := Nat.ne_of_lt (Nat.lt_of_lt_of_le (by have := World.block_lt_of_cell? _ _ hx295_0; first | rwa [add_block] at this | exact this) GW294.out); try replace hx295_0 := (HB.out.cell (World.block_lt_of_cell? w _ hx295_0)).trans hx295_0; have HR295_0 := Aside0.mk hi295_0; have HC295_0 := Aside0.mk hl295_0; clear hi295_0 hl295_0; replace hx295_0 := (cell_far (p := ⟨gb294, 0, none⟩) (by first | (rw [add_block]; exact hn295_0) | (show (Addr.add _ _).block ≠ _; rw [add_block]; exact hn295_0) | exact hn295_0) (.int .i64 ((rd_T35 (rd_L2 l0_3 x40_2) x56_3).f0))).trans hx295_0; replace hx295_0 := (cell_far (p := ⟨gb294, 1, none⟩) (by first | (rw [add_block]; exact hn295_1) | (show (Addr.add _ _).block ≠ _; rw [add_block]; exact hn295_1) | exact hn295_1) (.int .i64 ((rd_T35 (rd_L2 l0_3 x40_2) x56_3).f1))).trans hx295_0; replace hx295_0 := (cell_far (p := ⟨gb294, 2, none⟩) (by first | (rw [add_block]; exact hn295_2) | (show (Addr.add _ _).block ≠ _; rw [add_block]; exact hn295_2) | exact hn295_2) (.int .i64 ((rd_T35 (rd_L2 l0_3 x40_2) x56_3).f2))).trans hx295_0; replace hx295_0 := (cell_far (p := ⟨gb294, 3, none⟩) (by first | (rw [add_block]; exact hn295_3) | (show (Addr.add _ _).block ≠ _; rw [add_block]; exact hn295_3) | exact hn295_3) (.int .i64 ((rd_T35 (rd_L2 l0_3 x40_2) x56_3).f3))).trans hx295_0; (try have hy295_0 := fun (n_ : Nat) => (show ((((((w38.drewN n_).setCell ⟨gb294, 0, none⟩ (.int .i64 ((rd_T35 (rd_L2 l0_3 x40_2) x56_3).f0))).setCell ⟨gb294, 1, none⟩ (.int .i64 ((rd_T35 (rd_L2 l0_3 x40_2) x56_3).f1))).setCell ⟨gb294, 2, none⟩ (.int .i64 ((rd_T35 (rd_L2 l0_3 x40_2) x56_3).f2))).setCell ⟨gb294, 3, none⟩ (.int .i64 ((rd_T35 (rd_L2 l0_3 x40_2) x56_3).f3)))).cell? _ = some _ from hx295_0)); clear hn295_0; clear hn295_1; clear hn295_2; clear hn295_3; replace p295 := eq_true p295; replace q295 := eq_true q295; have p296 : 0 ≤ (x56_3 : Int) := of_decide_eq_true (by first | (with_reducible assumption) | assumption); have q296 : x56_3 < ((rd_L2 l1_3 x40_2).length : Int) := of_decide_eq_true (by first | (with_reducible assumption) | assumption); obtain ⟨ad296, e296, hx296_0, hx296_1, hx296_2, hx296_3⟩ := at_T35 HR295_0.out x56_3 p296 q296; cases e296; have hn296_0 : ad296.block ≠ gb294 := Nat.ne_of_lt (Nat.lt_of_lt_of_le (by have := World.block_lt_of_cell? _ _ hx296_0; first | rwa [add_block] at this | exact this) GW294.out); have hn296_1 : ad296.block ≠ gb294 := Nat.ne_of_lt (Nat.lt_of_lt_of_le (by have := World.block_lt_of_cell? _ _ hx296_0; first | rwa [add_block] at this | exact this) GW294.out); have hn296_2 : ad296.block ≠ gb294 := Nat.ne_of_lt (Nat.lt_of_lt_of_le (by have := World.block_lt_of_cell? _ _ hx296_0; first | rwa [add_block] at this | exact this) GW294.out); have hn296_3 : ad296.block ≠ gb294 := Nat.ne_of_lt (Nat.lt_of_lt_of_le (by have := World.block_lt_of_cell? _ _ hx296_0; first | rwa [add_block] at this | exact this) GW294.out); try replace hx296_0 := (HB.out.cell (World.block_lt_of_cell? w _ hx296_0)).trans hx296_0; try replace hx296_1 := (HB.out.cell (World.block_lt_of_cell? w _ hx296_1)).trans hx296_1; try replace hx296_2 := (HB.out.cell (World.block_lt_of_cell? w _ hx296_2)).trans hx296_2; try replace hx296_3 := (HB.out.cell (World.block_lt_of_cell? w _ hx296_3)).trans hx296_3; replace hx296_0 := (cell_far (p := ⟨gb294, 0, none⟩) (by first | (rw [add_block]; exact hn296_0) | (show (Addr.add _ _).block ≠ _; rw [add_block]; exact hn296_0) | exact hn296_0) (.int .i64 ((rd_T35 (rd_L2 l0_3 x40_2) x56_3).f0))).trans hx296_0; replace hx296_1 := (cell_far (p := ⟨gb294, 0, none⟩) (by first | (rw [add_block]; exact hn296_0) | (show (Addr.add _ _).block ≠ _; rw [add_block]; exact hn296_0) | exact hn296_0) (.int .i64 ((rd_T35 (rd_L2 l0_3 x40_2) x56_3).f0))).trans hx296_1; replace hx296_2 := (cell_far (p := ⟨gb294, 0, none⟩) (by first | (rw [add_block]; exact hn296_0) | (show (Addr.add _ _).block ≠ _; rw [add_block]; exact hn296_0) | exact hn296_0) (.int .i64 ((rd_T35 (rd_L2 l0_3 x40_2) x56_3).f0))).trans hx296_2; replace hx296_3 := (cell_far (p := ⟨gb294, 0, none⟩) (by first | (rw [add_block]; exact hn296_0) | (show (Addr.add _ _).block ≠ _; rw [add_block]; exact hn296_0) | exact hn296_0) (.int .i64 ((rd_T35 (rd_L2 l0_3 x40_2) x56_3).f0))).trans hx296_3; replace hx296_0 := (cell_far (p := ⟨gb294, 1, none⟩) (by first | (rw [add_block]; exact hn296_1) | (show (Addr.add _ _).block ≠ _; rw [add_block]; exact hn296_1) | exact hn296_1) (.int .i64 ((rd_T35 (rd_L2 l0_3 x40_2) x56_3).f1))).trans hx296_0; replace hx296_1 := (cell_far (p := ⟨gb294, 1, none⟩) (by first | (rw [add_block]; exact hn296_1) | (show (Addr.add _ _).block ≠ _; rw [add_block]; exact hn296_1) | exact hn296_1) (.int .i64 ((rd_T35 (rd_L2 l0_3 x40_2) x56_3).f1))).trans hx296_1; replace hx296_2 := (cell_far (p := ⟨gb294, 1, none⟩) (by first | (rw [add_block]; exact hn296_1) | (show (Addr.add _ _).block ≠ _; rw [add_block]; exact hn296_1) | exact hn296_1) (.int .i64 ((rd_T35 (rd_L2 l0_3 x40_2) x56_3).f1))).trans hx296_2; replace hx296_3 := (cell_far (p := ⟨gb294, 1, none⟩) (by first | (rw [add_block]; exact hn296_1) | (show (Addr.add _ _).block ≠ _; rw [add_block]; exact hn296_1) | exact hn296_1) (.int .i64 ((rd_T35 (rd_L2 l0_3 x40_2) x56_3).f1))).trans hx296_3; replace hx296_0 := (cell_far (p := ⟨gb294, 2, none⟩) (by first | (rw [add_block]; exact hn296_2) | (show (Addr.add _ _).block ≠ _; rw [add_block]; exact hn296_2) | exact hn296_2) (.int .i64 ((rd_T35 (rd_L2 l0_3 x40_2) x56_3).f2))).trans hx296_0; replace hx296_1 := (cell_far (p := ⟨gb294, 2, none⟩) (by first | (rw [add_block]; exact hn296_2) | (show (Addr.add _ _).block ≠ _; rw [add_block]; exact hn296_2) | exact hn296_2) (.int .i64 ((rd_T35 (rd_L2 l0_3 x40_2) x56_3).f2))).trans hx296_1; replace hx296_2 := (cell_far (p := ⟨gb294, 2, none⟩) (by first | (rw [add_block]; exact hn296_2) | (show (Addr.add _ _).block ≠ _; rw [add_block]; exact hn296_2) | exact hn296_2) (.int .i64 ((rd_T35 (rd_L2 l0_3 x40_2) x56_3).f2))).trans hx296_2; replace hx296_3 := (cell_far (p := ⟨gb294, 2, none⟩) (by first | (rw [add_block]; exact hn296_2) | (show (Addr.add _ _).block ≠ _; rw [add_block]; exact hn296_2) | exact hn296_2) (.int .i64 ((rd_T35 (rd_L2 l0_3 x40_2) x56_3).f2))).trans hx296_3; replace hx296_0 := (cell_far (p := ⟨gb294, 3, none⟩) (by first | (rw [add_block]; exact hn296_3) | (show (Addr.add _ _).block ≠ _; rw [add_block]; exact hn296_3) | exact hn296_3) (.int .i64 ((rd_T35 (rd_L2 l0_3 x40_2) x56_3).f3))).trans hx296_0; replace hx296_1 := (cell_far (p := ⟨gb294, 3, none⟩) (by first | (rw [add_block]; exact hn296_3) | (show (Addr.add _ _).block ≠ _; rw [add_block]; exact hn296_3) | exact hn296_3) (.int .i64 ((rd_T35 (rd_L2 l0_3 x40_2) x56_3).f3))).trans hx296_1; replace hx296_2 := (cell_far (p := ⟨gb294, 3, none⟩) (by first | (rw [add_block]; exact hn296_3) | (show (Addr.add _ _).block ≠ _; rw [add_block]; exact hn296_3) | exact hn296_3) (.int .i64 ((rd_T35 (rd_L2 l0_3 x40_2) x56_3).f3))).trans hx296_2; replace hx296_3 := (cell_far (p := ⟨gb294, 3, none⟩) (by first | (rw [add_block]; exact hn296_3) | (show (Addr.add _ _).block ≠ _; rw [add_block]; exact hn296_3) | exact hn296_3) (.int .i64 ((rd_T35 (rd_L2 l0_3 x40_2) x56_3).f3))).trans hx296_3; (try have hy296_0 := fun (n_ : Nat) => (show ((((((w38.drewN n_).setCell ⟨gb294, 0, none⟩ (.int .i64 ((rd_T35 (rd_L2 l0_3 x40_2) x56_3).f0))).setCell ⟨gb294, 1, none⟩ (.int .i64 ((rd_T35 (rd_L2 l0_3 x40_2) x56_3).f1))).setCell ⟨gb294, 2, none⟩ (.int .i64 ((rd_T35 (rd_L2 l0_3 x40_2) x56_3).f2))).setCell ⟨gb294, 3, none⟩ (.int .i64 ((rd_T35 (rd_L2 l0_3 x40_2) x56_3).f3)))).cell? _ = some _ from hx296_0)); (try have hy296_1 := fun (n_ : Nat) => (show ((((((w38.drewN n_).setCell ⟨gb294, 0, none⟩ (.int .i64 ((rd_T35 (rd_L2 l0_3 x40_2) x56_3).f0))).setCell ⟨gb294, 1, none⟩ (.int .i64 ((rd_T35 (rd_L2 l0_3 x40_2) x56_3).f1))).setCell ⟨gb294, 2, none⟩ (.int .i64 ((rd_T35 (rd_L2 l0_3 x40_2) x56_3).f2))).setCell ⟨gb294, 3, none⟩ (.int .i64 ((rd_T35 (rd_L2 l0_3 x40_2) x56_3).f3)))).cell? _ = some _ from hx296_1)); (try have hy296_2 := fun (n_ : Nat) => (show ((((((w38.drewN n_).setCell ⟨gb294, 0, none⟩ (.int .i64 ((rd_T35 (rd_L2 l0_3 x40_2) x56_3).f0))).setCell ⟨gb294, 1, none⟩ (.int .i64 ((rd_T35 (rd_L2 l0_3 x40_2) x56_3).f1))).setCell ⟨gb294, 2, none⟩ (.int .i64 ((rd_T35 (rd_L2 l0_3 x40_2) x56_3).f2))).setCell ⟨gb294, 3, none⟩ (.int .i64 ((rd_T35 (rd_L2 l0_3 x40_2) x56_3).f3)))).cell? _ = some _ from hx296_2)); (try have hy296_3 := fun (n_ : Nat) => (show ((((((w38.drewN n_).setCell ⟨gb294, 0, none⟩ (.int .i64 ((rd_T35 (rd_L2 l0_3 x40_2) x56_3).f0))).setCell ⟨gb294, 1, none⟩ (.int .i64 ((rd_T35 (rd_L2 l0_3 x40_2) x56_3).f1))).setCell ⟨gb294, 2, none⟩ (.int .i64 ((rd_T35 (rd_L2 l0_3 x40_2) x56_3).f2))).setCell ⟨gb294, 3, none⟩ (.int .i64 ((rd_T35 (rd_L2 l0_3 x40_2) x56_3).f3)))).cell? _ = some _ from hx296_3)); clear hn296_0; clear hn296_1; clear hn296_2; clear hn296_3; replace p296 := eq_true p296; replace q296 := eq_true q296)))
                                        go_ret
                                        exact ⟨by first | rfl | (simp [errW_none, errW_some] <;> rfl) | (simp [*, errW_none, errW_some] <;> rfl), by repeat (first | (with_reducible first | exact HB.out | apply below_alloc | apply pw_below_drewN | apply below_drew1 | refine below_set ?_ GE289.out | refine below_set ?_ GE290.out | refine below_set ?_ GE294.out) | exact HB.out)⟩
                                      · rw [if_neg c37] at H
                                        have c37b0 : (!(((rd_T35 (rd_L2 l0_3 x40_2) x56_3).f0) == ((rd_T35 (rd_L2 l1_3 x40_2) x56_3).f0)) || (!(((rd_T35 (rd_L2 l0_3 x40_2) x56_3).f1) == ((rd_T35 (rd_L2 l1_3 x40_2) x56_3).f1)) || (!(((rd_T35 (rd_L2 l0_3 x40_2) x56_3).f2) == ((rd_T35 (rd_L2 l1_3 x40_2) x56_3).f2)) || (!(((rd_T35 (rd_L2 l0_3 x40_2) x56_3).f3) == ((rd_T35 (rd_L2 l1_3 x40_2) x56_3).f3)))))) = false := by simpa using c37
                                        clear c37
                                        have H' := Aside0.mk H
                                        clear H
                                        have p293 : 0 ≤ (x56_3 : Int) := of_decide_eq_true (by first | (with_reducible assumption) | assumption)
                                        have q293 : x56_3 < ((rd_L2 l0_3 x40_2).length : Int) := of_decide_eq_true (by first | (with_reducible assumption) | assumption)
                                        obtain ⟨ad293, e293, hx293_0, hx293_1, hx293_2, hx293_3⟩ := at_T35 HR291_0.out x56_3 p293 q293
                                        cases e293
                                        try replace hx293_0 := (HB.out.cell (World.block_lt_of_cell? w _ hx293_0)).trans hx293_0
                                        try replace hx293_1 := (HB.out.cell (World.block_lt_of_cell? w _ hx293_1)).trans hx293_1
                                        try replace hx293_2 := (HB.out.cell (World.block_lt_of_cell? w _ hx293_2)).trans hx293_2
                                        try replace hx293_3 := (HB.out.cell (World.block_lt_of_cell? w _ hx293_3)).trans hx293_3
                                        replace p293 := eq_true p293
                                        replace q293 := eq_true q293
                                        go_wp2_with (first | ((with_reducible refine gate_dst (N := 8) rfl ?_); (try (refine gate_guard (by rfl) ?_; dsimp only)); refine box_event ?hg (N := 8) ?hd (cs := #[.int .i64 0, .int .i64 0, .int .i64 0, .int .i64 0]) (t := 35) ?hr ?_; (case hd => rfl); (case hg => rfl); (case hr => first | (go_simp; done) | (go_simp; rfl)); intro gb294 hg w44 hbox hb; have n0_ := Aside0.mk (blk_below (g := gb289) (o := .cells #[.int .i64 a0_0, .int .i64 a0_1, .int .i64 a0_2, .slice (some ad291) l0_3.length c0_3] 24 (0, 0)) (by (with_reducible repeat (first | refine blk_drewN ?_ _ | refine blk_drew ?_ | refine blk_alloc ?_ _)); exact BK289.out) hb); have n1_ := Aside0.mk (blk_below (g := gb290) (o := .cells #[.int .i64 a1_0, .int .i64 a1_1, .int .i64 a1_2, .slice (some ad292) l1_3.length c1_3] 24 (0, 0)) (by (with_reducible repeat (first | refine blk_drewN ?_ _ | refine blk_drew ?_ | refine blk_alloc ?_ _)); exact BK290.out) hb); have n2_ := Aside0.mk (below_step (by repeat (first | (with_reducible first | exact HB.out | apply below_alloc | apply pw_below_drewN | apply below_drew1 | refine below_set ?_ GE289.out | refine below_set ?_ GE290.out) | exact HB.out)) hb); have n3_ := Aside0.mk (hbox); have n4_ := Aside0.mk ((by rw [hg]; exact (below_size (by repeat (first | (with_reducible first | exact HB.out | apply below_alloc | apply pw_below_drewN | apply below_drew1 | refine below_set ?_ GE289.out | refine below_set ?_ GE290.out) | exact HB.out))) : w.heap.size ≤ gb294)); have n5_ := Aside0.mk ((by rw [hg]; exact (below_size (by repeat (first | (with_reducible first | exact HB.out | apply below_alloc | apply pw_below_drewN | apply below_drew1 | refine below_set ?_ GE289.out | refine below_set ?_ GE290.out) | exact HB.out))) : w.heap.size ≤ gb294)); have n6_ := Aside0.mk ((by rw [hg]; exact Nat.ne_of_lt (blk_lt (g := gb289) (o := .cells #[.int .i64 a0_0, .int .i64 a0_1, .int .i64 a0_2, .slice (some ad291) l0_3.length c0_3] 24 (0, 0)) (by (with_reducible repeat (first | refine blk_drewN ?_ _ | refine blk_drew ?_ | refine blk_alloc ?_ _)); exact BK289.out)) : gb289 ≠ gb294)); have n7_ := Aside0.mk ((by rw [hg]; exact Nat.ne_of_gt (blk_lt (g := gb289) (o := .cells #[.int .i64 a0_0, .int .i64 a0_1, .int .i64 a0_2, .slice (some ad291) l0_3.length c0_3] 24 (0, 0)) (by (with_reducible repeat (first | refine blk_drewN ?_ _ | refine blk_drew ?_ | refine blk_alloc ?_ _)); exact BK289.out)) : gb294 ≠ gb289)); have n8_ := Aside0.mk ((by rw [hg]; exact Nat.ne_of_lt (blk_lt (g := gb290) (o := .cells #[.int .i64 a1_0, .int .i64 a1_1, .int .i64 a1_2, .slice (some ad292) l1_3.length c1_3] 24 (0, 0)) (by (with_reducible repeat (first | refine blk_drewN ?_ _ | refine blk_drew ?_ | refine blk_alloc ?_ _)); exact BK290.out)) : gb290 ≠ gb294)); have n9_ := Aside0.mk ((by rw [hg]; exact Nat.ne_of_gt (blk_lt (g := gb290) (o := .cells #[.int .i64 a1_0, .int .i64 a1_1, .int .i64 a1_2, .slice (some ad292) l1_3.length c1_3] 24 (0, 0)) (by (with_reducible repeat (first | refine blk_drewN ?_ _ | refine blk_drew ?_ | refine blk_alloc ?_ _)); exact BK290.out)) : gb294 ≠ gb290)); clear BK289; clear BK290; clear HB; have BK289 := n0_; have BK290 := n1_; have HB := n2_; have BK294 := n3_; have GW294 := n4_; have GE294 := n5_; have NB289_294 := n6_; have NB294_289 := n7_; have NB290_294 := n8_; have NB294_290 := n9_; clear n0_ n1_ n2_ n3_ n4_ n5_ n6_ n7_ n8_ n9_; clear hb hbox hg; have hnb45 := NB294_289.out; have hnc45 := NB289_294.out; have hnb46 := NB294_290.out; have hnc46 := NB290_294.out; have hcz47_0 : w44.cell? ⟨gb294, 0, none⟩ = some (.int .i64 0) := (blk_cell BK294.out 0).trans rfl; have hcz47_1 : w44.cell? ⟨gb294, 1, none⟩ = some (.int .i64 0) := (blk_cell BK294.out 1).trans rfl; have hcz47_2 : w44.cell? ⟨gb294, 2, none⟩ = some (.int .i64 0) := (blk_cell BK294.out 2).trans rfl; have hcz47_3 : w44.cell? ⟨gb294, 3, none⟩ = some (.int .i64 0) := (blk_cell BK294.out 3).trans rfl; have hfz47_0 := blk_frozen BK294.out 0; have hfz47_1 := blk_frozen BK294.out 1; have hfz47_2 := blk_frozen BK294.out 2; have hfz47_3 := blk_frozen BK294.out 3; have hnb48 := NB290_289.out; have hnc48 := NB289_290.out; have hcz49_0 : w44.cell? ⟨gb290, 0, none⟩ = some (.int .i64 a1_0) := (blk_cell BK290.out 0).trans rfl; have hcz49_1 : w44.cell? ⟨gb290, 1, none⟩ = some (.int .i64 a1_1) := (blk_cell BK290.out 1).trans rfl; have hcz49_2 : w44.cell? ⟨gb290, 2, none⟩ = some (.int .i64 a1_2) := (blk_cell BK290.out 2).trans rfl; have hcz49_3 : w44.cell? ⟨gb290, 3, none⟩ = some (.slice (some ad292) l1_3.length c1_3) := (blk_cell BK290.out 3).trans rfl; have hfz49_0 := blk_frozen BK290.out 0; have hfz49_1 := blk_frozen BK290.out 1; have hfz49_2 := blk_frozen BK290.out 2; have hfz49_3 := blk_frozen BK290.out 3; have p295 : 0 ≤ (x40_2 : Int) := of_decide_eq_true (by first | (with_reducible assumption) | assumption); have q295 : x40_2 < (l1_3.length : Int) := of_decide_eq_true (by first | (with_reducible assumption) | assumption); obtain ⟨ad295, A295_0, c295_0, e295, hx295_0, hl295_0, hi295_0⟩ := at_L2 HR1_3.out x40_2 p295 q295; obtain rfl : ad292 = ad295 := (by injection e295); have hn295_0 : ad292.block ≠ gb294 := Nat.ne_of_lt (Nat.lt_of_lt_of_le (by have := World.block_lt_of_cell? _ _ hx295_0; first | rwa [add_block] at this | exact this) GW294.out); have hn295_1 : ad292.block ≠ gb294 := Nat.ne_of_lt (Nat.lt_of_lt_of_le (by have := World.block_lt_of_cell? _ _ hx295_0; first | rwa [add_block] at this | exact this) GW294.out); have hn295_2 : ad292.block ≠ gb294 := Nat.ne_of_lt (Nat.lt_of_lt_of_le (by have := World.block_lt_of_cell? _ _ hx295_0; first | rwa [add_block] at this | exact this) GW294.out); have hn295_3 : ad292.block ≠ gb294 := Nat.ne_of_lt (Nat.lt_of_lt_of_le (by have := World.block_lt_of_cell? _ _ hx295_0; first | rwa [add_block] at this | exact this) GW294.out); try replace hx295_0 := (HB.out.cell (World.block_lt_of_cell? w _ hx295_0)).trans hx295_0; have HR295_0 := Aside0.mk hi295_0; have HC295_0 := Aside0.mk hl295_0; clear hi295_0 hl295_0; replace hx295_0 := (cell_far (p := ⟨gb294, 0, none⟩) (by first | (rw [add_block]; exact hn295_0) | (show (Addr.add _ _).block ≠ _; rw [add_block]; exact hn295_0) | exact hn295_0) (.int .i64 ((rd_T35 (rd_L2 l0_3 x40_2) x56_3).f0))).trans hx295_0; replace hx295_0 := (cell_far (p := ⟨gb294, 1, none⟩) (by first | (rw [add_block]; exact hn295_1) | (show (Addr.add _ _).block ≠ _; rw [add_block]; exact hn295_1) | exact hn295_1) (.int .i64 ((rd_T35 (rd_L2 l0_3 x40_2) x56_3).f1))).trans hx295_0; replace hx295_0 := (cell_far (p := ⟨gb294, 2, none⟩) (by first | (rw [add_block]; exact hn295_2) | (show (Addr.add _ _).block ≠ _; rw [add_block]; exact hn295_2) | exact hn295_2) (.int .i64 ((rd_T35 (rd_L2 l0_3 x40_2) x56_3).f2))).trans hx295_0; replace hx295_0 := (cell_far (p := ⟨gb294, 3, none⟩) (by first | (rw [add_block]; exact hn295_3) | (show (Addr.add _ _).block ≠ _; rw [add_block]; exact hn295_3) | exact hn295_3) (.int .i64 ((rd_T35 (rd_L2 l0_3 x40_2) x56_3).f3))).trans hx295_0; (try have hy295_0 := fun (n_ : Nat) => (show ((((((w44.drewN n_).setCell ⟨gb294, 0, none⟩ (.int .i64 ((rd_T35 (rd_L2 l0_3 x40_2) x56_3).f0))).setCell ⟨gb294, 1, none⟩ (.int .i64 ((rd_T35 (rd_L2 l0_3 x40_2) x56_3).f1))).setCell ⟨gb294, 2, none⟩ (.int .i64 ((rd_T35 (rd_L2 l0_3 x40_2) x56_3).f2))).setCell ⟨gb294, 3, none⟩ (.int .i64 ((rd_T35 (rd_L2 l0_3 x40_2) x56_3).f3)))).cell? _ = some _ from hx295_0)); clear hn295_0; clear hn295_1; clear hn295_2; clear hn295_3; replace p295 := eq_true p295; replace q295 := eq_true q295; have p296 : 0 ≤ (x56_3 : Int) := of_decide_eq_true (by first | (with_reducible assumption) | assumption); have q296 : x56_3 < ((rd_L2 l1_3 x40_2).length : Int) := of_decide_eq_true (by first | (with_reducible assumption) | assumption); obtain ⟨ad296, e296, hx296_0, hx296_1, hx296_2, hx296_3⟩ := at_T35 HR295_0.out x56_3 p296 q296; cases e296; have hn296_0 : ad296.block ≠ gb294 := Nat.ne_of_lt (Nat.lt_of_lt_of_le (by have := World.block_lt_of_cell? _ _ hx296_0; first | rwa [add_block] at this | exact this) GW294.out); have hn296_1 : ad296.block ≠ gb294 := Nat.ne_of_lt (Nat.lt_of_lt_of_le (by have := World.block_lt_of_cell? _ _ hx296_0; first | rwa [add_block] at this | exact this) GW294.out); have hn296_2 : ad296.block ≠ gb294 := Nat.ne_of_lt (Nat.lt_of_lt_of_le (by have := World.block_lt_of_cell? _ _ hx296_0; first | rwa [add_block] at this | exact this) GW294.out); have hn296_3 : ad296.block ≠ gb294 := Nat.ne_of_lt (Nat.lt_of_lt_of_le (by have := World.block_lt_of_cell? _ _ hx296_0; first | rwa [add_block] at this | exact this) GW294.out); try replace hx296_0 := (HB.out.cell (World.block_lt_of_cell? w _ hx296_0)).trans hx296_0; try replace hx296_1 := (HB.out.cell (World.block_lt_of_cell? w _ hx296_1)).trans hx296_1; try replace hx296_2 := (HB.out.cell (World.block_lt_of_cell? w _ hx296_2)).trans hx296_2; try replace hx296_3 := (HB.out.cell (World.block_lt_of_cell? w _ hx296_3)).trans hx296_3; replace hx296_0 := (cell_far (p := ⟨gb294, 0, none⟩) (by first | (rw [add_block]; exact hn296_0) | (show (Addr.add _ _).block ≠ _; rw [add_block]; exact hn296_0) | exact hn296_0) (.int .i64 ((rd_T35 (rd_L2 l0_3 x40_2) x56_3).f0))).trans hx296_0; replace hx296_1 := (cell_far (p := ⟨gb294, 0, none⟩) (by first | (rw [add_block]; exact hn296_0) | (show (Addr.add _ _).block ≠ _; rw [add_block]; exact hn296_0) | exact hn296_0) (.int .i64 ((rd_T35 (rd_L2 l0_3 x40_2) x56_3).f0))).trans hx296_1; replace hx296_2 := (cell_far (p := ⟨gb294, 0, none⟩) (by first | (rw [add_block]; exact hn296_0) | (show (Addr.add _ _).block ≠ _; rw [add_block]; exact hn296_0) | exact hn296_0) (.int .i64 ((rd_T35 (rd_L2 l0_3 x40_2) x56_3).f0))).trans hx296_2; replace hx296_3 := (cell_far (p := ⟨gb294, 0, none⟩) (by first | (rw [add_block]; exact hn296_0) | (show (Addr.add _ _).block ≠ _; rw [add_block]; exact hn296_0) | exact hn296_0) (.int .i64 ((rd_T35 (rd_L2 l0_3 x40_2) x56_3).f0))).trans hx296_3; replace hx296_0 := (cell_far (p := ⟨gb294, 1, none⟩) (by first | (rw [add_block]; exact hn296_1) | (show (Addr.add _ _).block ≠ _; rw [add_block]; exact hn296_1) | exact hn296_1) (.int .i64 ((rd_T35 (rd_L2 l0_3 x40_2) x56_3).f1))).trans hx296_0; replace hx296_1 := (cell_far (p := ⟨gb294, 1, none⟩) (by first | (rw [add_block]; exact hn296_1) | (show (Addr.add _ _).block ≠ _; rw [add_block]; exact hn296_1) | exact hn296_1) (.int .i64 ((rd_T35 (rd_L2 l0_3 x40_2) x56_3).f1))).trans hx296_1; replace hx296_2 := (cell_far (p := ⟨gb294, 1, none⟩) (by first | (rw [add_block]; exact hn296_1) | (show (Addr.add _ _).block ≠ _; rw [add_block]; exact hn296_1) | exact hn296_1) (.int .i64 ((rd_T35 (rd_L2 l0_3 x40_2) x56_3).f1))).trans hx296_2; replace hx296_3 := (cell_far (p := ⟨gb294, 1, none⟩) (by first | (rw [add_block]; exact hn296_1) | (show (Addr.add _ _).block ≠ _; rw [add_block]; exact hn296_1) | exact hn296_1) (.int .i64 ((rd_T35 (rd_L2 l0_3 x40_2) x56_3).f1))).trans hx296_3; replace hx296_0 := (cell_far (p := ⟨gb294, 2, none⟩) (by first | (rw [add_block]; exact hn296_2) | (show (Addr.add _ _).block ≠ _; rw [add_block]; exact hn296_2) | exact hn296_2) (.int .i64 ((rd_T35 (rd_L2 l0_3 x40_2) x56_3).f2))).trans hx296_0; replace hx296_1 := (cell_far (p := ⟨gb294, 2, none⟩) (by first | (rw [add_block]; exact hn296_2) | (show (Addr.add _ _).block ≠ _; rw [add_block]; exact hn296_2) | exact hn296_2) (.int .i64 ((rd_T35 (rd_L2 l0_3 x40_2) x56_3).f2))).trans hx296_1; replace hx296_2 := (cell_far (p := ⟨gb294, 2, none⟩) (by first | (rw [add_block]; exact hn296_2) | (show (Addr.add _ _).block ≠ _; rw [add_block]; exact hn296_2) | exact hn296_2) (.int .i64 ((rd_T35 (rd_L2 l0_3 x40_2) x56_3).f2))).trans hx296_2; replace hx296_3 := (cell_far (p := ⟨gb294, 2, none⟩) (by first | (rw [add_block]; exact hn296_2) | (show (Addr.add _ _).block ≠ _; rw [add_block]; exact hn296_2) | exact hn296_2) (.int .i64 ((rd_T35 (rd_L2 l0_3 x40_2) x56_3).f2))).trans hx296_3; replace hx296_0 := (cell_far (p := ⟨gb294, 3, none⟩) (by first | (rw [add_block]; exact hn296_3) | (show (Addr.add _ _).block ≠ _; rw [add_block]; exact hn296_3) | exact hn296_3) (.int .i64 ((rd_T35 (rd_L2 l0_3 x40_2) x56_3).f3))).trans hx296_0; replace hx296_1 := (cell_far (p := ⟨gb294, 3, none⟩) (by first | (rw [add_block]; exact hn296_3) | (show (Addr.add _ _).block ≠ _; rw [add_block]; exact hn296_3) | exact hn296_3) (.int .i64 ((rd_T35 (rd_L2 l0_3 x40_2) x56_3).f3))).trans hx296_1; replace hx296_2 := (cell_far (p := ⟨gb294, 3, none⟩) (by first | (rw [add_block]; exact hn296_3) | (show (Addr.add _ _).block ≠ _; rw [add_block]; exact hn296_3) | exact hn296_3) (.int .i64 ((rd_T35 (rd_L2 l0_3 x40_2) x56_3).f3))).trans hx296_2; replace hx296_3 := (cell_far (p := ⟨gb294, 3, none⟩) (by first | (rw [add_block]; exact hn296_3) | (show (Addr.add _ _).block ≠ _; rw [add_block]; exact hn296_3) | exact hn296_3) (.int .i64 ((rd_T35 (rd_L2 l0_3 x40_2) x56_3).f3))).trans hx296_3; (try have hy296_0 := fun (n_ : Nat) => (show ((((((w44.drewN n_).setCell ⟨gb294, 0, none⟩ (.int .i64 ((rd_T35 (rd_L2 l0_3 x40_2) x56_3).f0))).setCell ⟨gb294, 1, none⟩ (.int .i64 ((rd_T35 (rd_L2 l0_3 x40_2) x56_3).f1))).setCell ⟨gb294, 2, none⟩ (.int .i64 ((rd_T35 (rd_L2 l0_3 x40_2) x56_3).f2))).setCell ⟨gb294, 3, none⟩ (.int .i64 ((rd_T35 (rd_L2 l0_3 x40_2) x56_3).f3)))).cell? _ = some _ from hx296_0)); (try have hy296_1 := fun (n_ : Nat) => (show ((((((w44.drewN n_).setCell ⟨gb294, 0, none⟩ (.int .i64 ((rd_T35 (rd_L2 l0_3 x40_2) x56_3).f0))).setCell ⟨gb294, 1, none⟩ (.int .i64 ((rd_T35 (rd_L2 l0_3 x40_2) x56_3).f1))).setCell ⟨gb294, 2, none⟩ (.int .i64 ((rd_T35 (rd_L2 l0_3 x40_2) x56_3).f2))).setCell ⟨gb294, 3, none⟩ (.int .i64 ((rd_T35 (rd_L2 l0_3 x40_2) x56_3).f3)))).cell? _ = some _ from hx296_1)); (try have hy296_2 := fun (n_ : Nat) => (show ((((((w44.drewN n_).setCell ⟨gb294, 0, none⟩ (.int .i64 ((rd_T35 (rd_L2 l0_3 x40_2) x56_3).f0))).setCell ⟨gb294, 1, none⟩ (.int .i64 ((rd_T35 (rd_L2 l0_3 x40_2) x56_3).f1))).setCell ⟨gb294, 2, none⟩ (.int .i64 ((rd_T35 (rd_L2 l0_3 x40_2) x56_3).f2))).setCell ⟨gb294, 3, none⟩ (.int .i64 ((rd_T35 (rd_L2 l0_3 x40_2) x56_3).f3)))).cell? _ = some _ from hx296_2)); (try have hy296_3 := fun (n_ : Nat) => (show ((((((w44.drewN n_).setCell ⟨gb294, 0, none⟩ (.int .i64 ((rd_T35 (rd_L2 l0_3 x40_2) x56_3).f0))).setCell ⟨gb294, 1, none⟩ (.int .i64 ((rd_T35 (rd_L2 l0_3 x40_2) x56_3).f1))).setCell ⟨gb294, 2, none⟩ (.int .i64 ((rd_T35 (rd_L2 l0_3 x40_2) x56_3).f2))).setCell ⟨gb294, 3, none⟩ (.int .i64 ((rd_T35 (rd_L2 l0_3 x40_2) x56_3).f3)))).cell? _ = some _ from hx296_3)); clear hn296_0; clear hn296_1; clear hn296_2; clear hn296_3; replace p296 := eq_true p296; replace q296 := eq_true q296))
                                        repeat (go_quiet (first | ((with_reducible refine gate_dst (N := 8) rfl ?_); (try (refine gate_guard (by rfl) ?_; dsimp only)); refine box_event ?hg (N := 8) ?hd (cs := #[.int .i64 0, .int .i64 0, .int .i64 0, .int .i64 0]) (t := 35) ?hr ?_; (case hd => rfl); (case hg => rfl); (case hr => first | (go_simp; done) | (go_simp; rfl)); intro gb294 hg w44 hbox hb; have n0_ := Aside0.mk (blk_below (g := gb289) (o := .cells #[.int .i64 a0_0, .int .i64 a0_1, .int .i64 a0_2, .slice (some ad291) l0_3.length c0_3] 24 (0, 0)) (by (with_reducible repeat (first | refine blk_drewN ?_ _ | refine blk_drew ?_ | refine blk_alloc ?_ _)); exact BK289.out) hb); have n1_ := Aside0.mk (blk_below (g := gb290) (o := .cells #[.int .i64 a1_0, .int .i64 a1_1, .int .i64 a1_2, .slice (some ad292) l1_3.length c1_3] 24 (0, 0)) (by (with_reducible repeat (first | refine blk_drewN ?_ _ | refine blk_drew ?_ | refine blk_alloc ?_ _)); exact BK290.out) hb); have n2_ := Aside0.mk (below_step (by repeat (first | (with_reducible first | exact HB.out | apply below_alloc | apply pw_below_drewN | apply below_drew1 | refine below_set ?_ GE289.out | refine below_set ?_ GE290.out) | exact HB.out)) hb); have n3_ := Aside0.mk (hbox); have n4_ := Aside0.mk ((by rw [hg]; exact (below_size (by repeat (first | (with_reducible first | exact HB.out | apply below_alloc | apply pw_below_drewN | apply below_drew1 | refine below_set ?_ GE289.out | refine below_set ?_ GE290.out) | exact HB.out))) : w.heap.size ≤ gb294)); have n5_ := Aside0.mk ((by rw [hg]; exact (below_size (by repeat (first | (with_reducible first | exact HB.out | apply below_alloc | apply pw_below_drewN | apply below_drew1 | refine below_set ?_ GE289.out | refine below_set ?_ GE290.out) | exact HB.out))) : w.heap.size ≤ gb294)); have n6_ := Aside0.mk ((by rw [hg]; exact Nat.ne_of_lt (blk_lt (g := gb289) (o := .cells #[.int .i64 a0_0, .int .i64 a0_1, .int .i64 a0_2, .slice (some ad291) l0_3.length c0_3] 24 (0, 0)) (by (with_reducible repeat (first | refine blk_drewN ?_ _ | refine blk_drew ?_ | refine blk_alloc ?_ _)); exact BK289.out)) : gb289 ≠ gb294)); have n7_ := Aside0.mk ((by rw [hg]; exact Nat.ne_of_gt (blk_lt (g := gb289) (o := .cells #[.int .i64 a0_0, .int .i64 a0_1, .int .i64 a0_2, .slice (some ad291) l0_3.length c0_3] 24 (0, 0)) (by (with_reducible repeat (first | refine blk_drewN ?_ _ | refine blk_drew ?_ | refine blk_alloc ?_ _)); exact BK289.out)) : gb294 ≠ gb289)); have n8_ := Aside0.mk ((by rw [hg]; exact Nat.ne_of_lt (blk_lt (g := gb290) (o := .cells #[.int .i64 a1_0, .int .i64 a1_1, .int .i64 a1_2, .slice (some ad292) l1_3.length c1_3] 24 (0, 0)) (by (with_reducible repeat (first | refine blk_drewN ?_ _ | refine blk_drew ?_ | refine blk_alloc ?_ _)); exact BK290.out)) : gb290 ≠ gb294)); have n9_ := Aside0.mk ((by rw [hg]; exact Nat.ne_of_gt (blk_lt (g := gb290) (o := .cells #[.int .i64 a1_0, .int .i64 a1_1, .int .i64 a1_2, .slice (some ad292) l1_3.length c1_3] 24 (0, 0)) (by (with_reducible repeat (first | refine blk_drewN ?_ _ | refine blk_drew ?_ | refine blk_alloc ?_ _)); exact BK290.out)) : gb294 ≠ gb290)); clear BK289; clear BK290; clear HB; have BK289 := n0_; have BK290 := n1_; have HB := n2_; have BK294 := n3_; have GW294 := n4_; have GE294 := n5_; have NB289_294 := n6_; have NB294_289 := n7_; have NB290_294 := n8_; have NB294_290 := n9_; clear n0_ n1_ n2_ n3_ n4_ n5_ n6_ n7_ n8_ n9_; clear hb hbox hg; have hnb45 := NB294_289.out; have hnc45 := NB289_294.out; have hnb46 := NB294_290.out; have hnc46 := NB290_294.out; have hcz47_0 : w44.cell? ⟨gb294, 0, none⟩ = some (.int .i64 0) := (blk_cell BK294.out 0).trans rfl; have hcz47_1 : w44.cell? ⟨gb294, 1, none⟩ = some (.int .i64 0) := (blk_cell BK294.out 1).trans rfl; have hcz47_2 : w44.cell? ⟨gb294, 2, none⟩ = some (.int .i64 0) := (blk_cell BK294.out 2).trans rfl; have hcz47_3 : w44.cell? ⟨gb294, 3, none⟩ = some (.int .i64 0) := (blk_cell BK294.out 3).trans rfl; have hfz47_0 := blk_frozen BK294.out 0; have hfz47_1 := blk_frozen BK294.out 1; have hfz47_2 := blk_frozen BK294.out 2; have hfz47_3 := blk_frozen BK294.out 3; have hnb48 := NB290_289.out; have hnc48 := NB289_290.out; have hcz49_0 : w44.cell? ⟨gb290, 0, none⟩ = some (.int .i64 a1_0) := (blk_cell BK290.out 0).trans rfl; have hcz49_1 : w44.cell? ⟨gb290, 1, none⟩ = some (.int .i64 a1_1) := (blk_cell BK290.out 1).trans rfl; have hcz49_2 : w44.cell? ⟨gb290, 2, none⟩ = some (.int .i64 a1_2) := (blk_cell BK290.out 2).trans rfl; have hcz49_3 : w44.cell? ⟨gb290, 3, none⟩ = some (.slice (some ad292) l1_3.length c1_3) := (blk_cell BK290.out 3).trans rfl; have hfz49_0 := blk_frozen BK290.out 0; have hfz49_1 := blk_frozen BK290.out 1; have hfz49_2 := blk_frozen BK290.out 2; have hfz49_3 := blk_frozen BK290.out 3; have p295 : 0 ≤ (x40_2 : Int) := of_decide_eq_true (by first | (with_reducible assumption) | assumption); have q295 : x40_2 < (l1_3.length : Int) := of_decide_eq_true (by first | (with_reducible assumption) | assumption); obtain ⟨ad295, A295_0, c295_0, e295, hx295_0, hl295_0, hi295_0⟩ := at_L2 HR1_3.out x40_2 p295 q295; obtain rfl : ad292 = ad295 := (by injection e295); have hn295_0 : ad292.block ≠ gb294 := Nat.ne_of_lt (Nat.lt_of_lt_of_le (by have := World.block_lt_of_cell? _ _ hx295_0; first | rwa [add_block] at this | exact this) GW294.out); have hn295_1 : ad292.block ≠ gb294 := Nat.ne_of_lt (Nat.lt_of_lt_of_le (by have := World.block_lt_of_cell? _ _ hx295_0; first | rwa [add_block] at this | exact this) GW294.out); have hn295_2 : ad292.block ≠ gb294 := Nat.ne_of_lt (Nat.lt_of_lt_of_le (by have := World.block_lt_of_cell? _ _ hx295_0; first | rwa [add_block] at this | exact this) GW294.out); have hn295_3 : ad292.block ≠ gb294 := Nat.ne_of_lt (Nat.lt_of_lt_of_le (by have := World.block_lt_of_cell? _ _ hx295_0; first | rwa [add_block] at this | exact this) GW294.out); try replace hx295_0 := (HB.out.cell (World.block_lt_of_cell? w _ hx295_0)).trans hx295_0; have HR295_0 := Aside0.mk hi295_0; have HC295_0 := Aside0.mk hl295_0; clear hi295_0 hl295_0; replace hx295_0 := (cell_far (p := ⟨gb294, 0, none⟩) (by first | (rw [add_block]; exact hn295_0) | (show (Addr.add _ _).block ≠ _; rw [add_block]; exact hn295_0) | exact hn295_0) (.int .i64 ((rd_T35 (rd_L2 l0_3 x40_2) x56_3).f0))).trans hx295_0; replace hx295_0 := (cell_far (p := ⟨gb294, 1, none⟩) (by first | (rw [add_block]; exact hn295_1) | (show (Addr.add _ _).block ≠ _; rw [add_block]; exact hn295_1) | exact hn295_1) (.int .i64 ((rd_T35 (rd_L2 l0_3 x40_2) x56_3).f1))).trans hx295_0; replace hx295_0 := (cell_far (p := ⟨gb294, 2, none⟩) (by first | (rw [add_block]; exact hn295_2) | (show (Addr.add _ _).block ≠ _; rw [add_block]; exact hn295_2) | exact hn295_2) (.int .i64 ((rd_T35 (rd_L2 l0_3 x40_2) x56_3).f2))).trans hx295_0; replace hx295_0 := (cell_far (p := ⟨gb294, 3, none⟩) (by first | (rw [add_block]; exact hn295_3) | (show (Addr.add _ _).block ≠ _; rw [add_block]; exact hn295_3) | exact hn295_3) (.int .i64 ((rd_T35 (rd_L2 l0_3 x40_2) x56_3).f3))).trans hx295_0; (try have hy295_0 := fun (n_ : Nat) => (show ((((((w44.drewN n_).setCell ⟨gb294, 0, none⟩ (.int .i64 ((rd_T35 (rd_L2 l0_3 x40_2) x56_3).f0))).setCell ⟨gb294, 1, none⟩ (.int .i64 ((rd_T35 (rd_L2 l0_3 x40_2) x56_3).f1))).setCell ⟨gb294, 2, none⟩ (.int .i64 ((rd_T35 (rd_L2 l0_3 x40_2) x56_3).f2))).setCell ⟨gb294, 3, none⟩ (.int .i64 ((rd_T35 (rd_L2 l0_3 x40_2) x56_3).f3)))).cell? _ = some _ from hx295_0)); clear hn295_0; clear hn295_1; clear hn295_2; clear hn295_3; replace p295 := eq_true p295; replace q295 := eq_true q295; have p296 : 0 ≤ (x56_3 : Int) := of_decide_eq_true (by first | (with_reducible assumption) | assumption); have q296 : x56_3 < ((rd_L2 l1_3 x40_2).length : Int) := of_decide_eq_true (by first | (with_reducible assumption) | assumption); obtain ⟨ad296, e296, hx296_0, hx296_1, hx296_2, hx296_3⟩ := at_T35 HR295_0.out x56_3 p296 q296; cases e296; have hn296_0 : ad296.block ≠ gb294 := Nat.ne_of_lt (Nat.lt_of_lt_of_le (by have := World.block_lt_of_cell? _ _ hx296_0; first | rwa [add_block] at this | exact this) GW294.out); have hn296_1 : ad296.block ≠ gb294 := Nat.ne_of_lt (Nat.lt_of_lt_of_le (by have := World.block_lt_of_cell? _ _ hx296_0; first | rwa [add_block] at this | exact this) GW294.out); have hn296_2 : ad296.block ≠ gb294 := Nat.ne_of_lt (Nat.lt_of_lt_of_le (by have := World.block_lt_of_cell? _ _ hx296_0; first | rwa [add_block] at this | exact this) GW294.out); have hn296_3 : ad296.block ≠ gb294 := Nat.ne_of_lt (Nat.lt_of_lt_of_le (by have := World.block_lt_of_cell? _ _ hx296_0; first | rwa [add_block] at this | exact this) GW294.out); try replace hx296_0 := (HB.out.cell (World.block_lt_of_cell? w _ hx296_0)).trans hx296_0; try replace hx296_1 := (HB.out.cell (World.block_lt_of_cell? w _ hx296_1)).trans hx296_1; try replace hx296_2 := (HB.out.cell (World.block_lt_of_cell? w _ hx296_2)).trans hx296_2; try replace hx296_3 := (HB.out.cell (World.block_lt_of_cell? w _ hx296_3)).trans hx296_3; replace hx296_0 := (cell_far (p := ⟨gb294, 0, none⟩) (by first | (rw [add_block]; exact hn296_0) | (show (Addr.add _ _).block ≠ _; rw [add_block]; exact hn296_0) | exact hn296_0) (.int .i64 ((rd_T35 (rd_L2 l0_3 x40_2) x56_3).f0))).trans hx296_0; replace hx296_1 := (cell_far (p := ⟨gb294, 0, none⟩) (by first | (rw [add_block]; exact hn296_0) | (show (Addr.add _ _).block ≠ _; rw [add_block]; exact hn296_0) | exact hn296_0) (.int .i64 ((rd_T35 (rd_L2 l0_3 x40_2) x56_3).f0))).trans hx296_1; replace hx296_2 := (cell_far (p := ⟨gb294, 0, none⟩) (by first | (rw [add_block]; exact hn296_0) | (show (Addr.add _ _).block ≠ _; rw [add_block]; exact hn296_0) | exact hn296_0) (.int .i64 ((rd_T35 (rd_L2 l0_3 x40_2) x56_3).f0))).trans hx296_2; replace hx296_3 := (cell_far (p := ⟨gb294, 0, none⟩) (by first | (rw [add_block]; exact hn296_0) | (show (Addr.add _ _).block ≠ _; rw [add_block]; exact hn296_0) | exact hn296_0) (.int .i64 ((rd_T35 (rd_L2 l0_3 x40_2) x56_3).f0))).trans hx296_3; replace hx296_0 := (cell_far (p := ⟨gb294, 1, none⟩) (by first | (rw [add_block]; exact hn296_1) | (show (Addr.add _ _).block ≠ _; rw [add_block]; exact hn296_1) | exact hn296_1) (.int .i64 ((rd_T35 (rd_L2 l0_3 x40_2) x56_3).f1))).trans hx296_0; replace hx296_1 := (cell_far (p := ⟨gb294, 1, none⟩) (by first | (rw [add_block]; exact hn296_1) | (show (Addr.add _ _).block ≠ _; rw [add_block]; exact hn296_1) | exact hn296_1) (.int .i64 ((rd_T35 (rd_L2 l0_3 x40_2) x56_3).f1))).trans hx296_1; replace hx296_2 := (cell_far (p := ⟨gb294, 1, none⟩) (by first | (rw [add_block]; exact hn296_1) | (show (Addr.add _ _).block ≠ _; rw [add_block]; exact hn296_1) | exact hn296_1) (.int .i64 ((rd_T35 (rd_L2 l0_3 x40_2) x56_3).f1))).trans hx296_2; replace hx296_3 := (cell_far (p := ⟨gb294, 1, none⟩) (by first | (rw [add_block]; exact hn296_1) | (show (Addr.add _ _).block ≠ _; rw [add_block]; exact hn296_1) | exact hn296_1) (.int .i64 ((rd_T35 (rd_L2 l0_3 x40_2) x56_3).f1))).trans hx296_3; replace hx296_0 := (cell_far (p := ⟨gb294, 2, none⟩) (by first | (rw [add_block]; exact hn296_2) | (show (Addr.add _ _).block ≠ _; rw [add_block]; exact hn296_2) | exact hn296_2) (.int .i64 ((rd_T35 (rd_L2 l0_3 x40_2) x56_3).f2))).trans hx296_0; replace hx296_1 := (cell_far (p := ⟨gb294, 2, none⟩) (by first | (rw [add_block]; exact hn296_2) | (show (Addr.add _ _).block ≠ _; rw [add_block]; exact hn296_2) | exact hn296_2) (.int .i64 ((rd_T35 (rd_L2 l0_3 x40_2) x56_3).f2))).trans hx296_1; replace hx296_2 := (cell_far (p := ⟨gb294, 2, none⟩) (by first | (rw [add_block]; exact hn296_2) | (show (Addr.add _ _).block ≠ _; rw [add_block]; exact hn296_2) | exact hn296_2) (.int .i64 ((rd_T35 (rd_L2 l0_3 x40_2) x56_3).f2))).trans hx296_2; replace hx296_3 := (cell_far (p := ⟨gb294, 2, none⟩) (by first | (rw [add_block]; exact hn296_2) | (show (Addr.add _ _).block ≠ _; rw [add_block]; exact hn296_2) | exact hn296_2) (.int .i64 ((rd_T35 (rd_L2 l0_3 x40_2) x56_3).f2))).trans hx296_3; replace hx296_0 := (cell_far (p := ⟨gb294, 3, none⟩) (by first | (rw [add_block]; exact hn296_3) | (show (Addr.add _ _).block ≠ _; rw [add_block]; exact hn296_3) | exact hn296_3) (.int .i64 ((rd_T35 (rd_L2 l0_3 x40_2) x56_3).f3))).trans hx296_0; replace hx296_1 := (cell_far (p := ⟨gb294, 3, none⟩) (by first | (rw [add_block]; exact hn296_3) | (show (Addr.add _ _).block ≠ _; rw [add_block]; exact hn296_3) | exact hn296_3) (.int .i64 ((rd_T35 (rd_L2 l0_3 x40_2) x56_3).f3))).trans hx296_1; replace hx296_2 := (cell_far (p := ⟨gb294, 3, none⟩) (by first | (rw [add_block]; exact hn296_3) | (show (Addr.add _ _).block ≠ _; rw [add_block]; exact hn296_3) | exact hn296_3) (.int .i64 ((rd_T35 (rd_L2 l0_3 x40_2) x56_3).f3))).trans hx296_2; replace hx296_3 := (cell_far (p := ⟨gb294, 3, none⟩) (by first | (rw [add_block]; exact hn296_3) | (show (Addr.add _ _).block ≠ _; rw [add_block]; exact hn296_3) | exact hn296_3) (.int .i64 ((rd_T35 (rd_L2 l0_3 x40_2) x56_3).f3))).trans hx296_3; (try have hy296_0 := fun (n_ : Nat) => (show ((((((w44.drewN n_).setCell ⟨gb294, 0, none⟩ (.int .i64 ((rd_T35 (rd_L2 l0_3 x40_2) x56_3).f0))).setCell ⟨gb294, 1, none⟩ (.int .i64 ((rd_T35 (rd_L2 l0_3 x40_2) x56_3).f1))).setCell ⟨gb294, 2, none⟩ (.int .i64 ((rd_T35 (rd_L2 l0_3 x40_2) x56_3).f2))).setCell ⟨gb294, 3, none⟩ (.int .i64 ((rd_T35 (rd_L2 l0_3 x40_2) x56_3).f3)))).cell? _ = some _ from hx296_0)); (try have hy296_1 := fun (n_ : Nat) => (show ((((((w44.drewN n_).setCell ⟨gb294, 0, none⟩ (.int .i64 ((rd_T35 (rd_L2 l0_3 x40_2) x56_3).f0))).setCell ⟨gb294, 1, none⟩ (.int .i64 ((rd_T35 (rd_L2 l0_3 x40_2) x56_3).f1))).setCell ⟨gb294, 2, none⟩ (.int .i64 ((rd_T35 (rd_L2 l0_3 x40_2) x56_3).f2))).setCell ⟨gb294, 3, none⟩ (.int .i64 ((rd_T35 (rd_L2 l0_3 x40_2) x56_3).f3)))).cell? _ = some _ from hx296_1)); (try have hy296_2 := fun (n_ : Nat) => (show ((((((w44.drewN n_).setCell ⟨gb294, 0, none⟩ (.int .i64 ((rd_T35 (rd_L2 l0_3 x40_2) x56_3).f0))).setCell ⟨gb294, 1, none⟩ (.int .i64 ((rd_T35 (rd_L2 l0_3 x40_2) x56_3).f1))).setCell ⟨gb294, 2, none⟩ (.int .i64 ((rd_T35 (rd_L2 l0_3 x40_2) x56_3).f2))).setCell ⟨gb294, 3, none⟩ (.int .i64 ((rd_T35 (rd_L2 l0_3 x40_2) x56_3).f3)))).cell? _ = some _ from hx296_2)); (try have hy296_3 := fun (n_ : Nat) => (show ((((((w44.drewN n_).setCell ⟨gb294, 0, none⟩ (.int .i64 ((rd_T35 (rd_L2 l0_3 x40_2) x56_3).f0))).setCell ⟨gb294, 1, none⟩ (.int .i64 ((rd_T35 (rd_L2 l0_3 x40_2) x56_3).f1))).setCell ⟨gb294, 2, none⟩ (.int .i64 ((rd_T35 (rd_L2 l0_3 x40_2) x56_3).f2))).setCell ⟨gb294, 3, none⟩ (.int .i64 ((rd_T35 (rd_L2 l0_3 x40_2) x56_3).f3)))).cell? _ = some _ from hx296_3)); clear hn296_0; clear hn296_1; clear hn296_2; clear hn296_3; replace p296 := eq_true p296; replace q296 := eq_true q296)); try go_wp2_with (first | ((with_reducible refine gate_dst (N := 8) rfl ?_); (try (refine gate_guard (by rfl) ?_; dsimp only)); refine box_event ?hg (N := 8) ?hd (cs := #[.int .i64 0, .int .i64 0, .int .i64 0, .int .i64 0]) (t := 35) ?hr ?_; (case hd => rfl); (case hg => rfl); (case hr => first | (go_simp; done) | (go_simp; rfl)); intro gb294 hg w44 hbox hb; have n0_ := Aside0.mk (blk_below (g := gb289) (o := .cells #[.int .i64 a0_0, .int .i64 a0_1, .int .i64 a0_2, .slice (some ad291) l0_3.length c0_3] 24 (0, 0)) (by (with_reducible repeat (first | refine blk_drewN ?_ _ | refine blk_drew ?_ | refine blk_alloc ?_ _)); exact BK289.out) hb); have n1_ := Aside0.mk (blk_below (g := gb290) (o := .cells #[.int .i64 a1_0, .int .i64 a1_1, .int .i64 a1_2, .slice (some ad292) l1_3.length c1_3] 24 (0, 0)) (by (with_reducible repeat (first | refine blk_drewN ?_ _ | refine blk_drew ?_ | refine blk_alloc ?_ _)); exact BK290.out) hb); have n2_ := Aside0.mk (below_step (by repeat (first | (with_reducible first | exact HB.out | apply below_alloc | apply pw_below_drewN | apply below_drew1 | refine below_set ?_ GE289.out | refine below_set ?_ GE290.out) | exact HB.out)) hb); have n3_ := Aside0.mk (hbox); have n4_ := Aside0.mk ((by rw [hg]; exact (below_size (by repeat (first | (with_reducible first | exact HB.out | apply below_alloc | apply pw_below_drewN | apply below_drew1 | refine below_set ?_ GE289.out | refine below_set ?_ GE290.out) | exact HB.out))) : w.heap.size ≤ gb294)); have n5_ := Aside0.mk ((by rw [hg]; exact (below_size (by repeat (first | (with_reducible first | exact HB.out | apply below_alloc | apply pw_below_drewN | apply below_drew1 | refine below_set ?_ GE289.out | refine below_set ?_ GE290.out) | exact HB.out))) : w.heap.size ≤ gb294)); have n6_ := Aside0.mk ((by rw [hg]; exact Nat.ne_of_lt (blk_lt (g := gb289) (o := .cells #[.int .i64 a0_0, .int .i64 a0_1, .int .i64 a0_2, .slice (some ad291) l0_3.length c0_3] 24 (0, 0)) (by (with_reducible repeat (first | refine blk_drewN ?_ _ | refine blk_drew ?_ | refine blk_alloc ?_ _)); exact BK289.out)) : gb289 ≠ gb294)); have n7_ := Aside0.mk ((by rw [hg]; exact Nat.ne_of_gt (blk_lt (g := gb289) (o := .cells #[.int .i64 a0_0, .int .i64 a0_1, .int .i64 a0_2, .slice (some ad291) l0_3.length c0_3] 24 (0, 0)) (by (with_reducible repeat (first | refine blk_drewN ?_ _ | refine blk_drew ?_ | refine blk_alloc ?_ _)); exact BK289.out)) : gb294 ≠ gb289)); have n8_ := Aside0.mk ((by rw [hg]; exact Nat.ne_of_lt (blk_lt (g := gb290) (o := .cells #[.int .i64 a1_0, .int .i64 a1_1, .int .i64 a1_2, .slice (some ad292) l1_3.length c1_3] 24 (0, 0)) (by (with_reducible repeat (first | refine blk_drewN ?_ _ | refine blk_drew ?_ | refine blk_alloc ?_ _)); exact BK290.out)) : gb290 ≠ gb294)); have n9_ := Aside0.mk ((by rw [hg]; exact Nat.ne_of_gt (blk_lt (g := gb290) (o := .cells #[.int .i64 a1_0, .int .i64 a1_1, .int .i64 a1_2, .slice (some ad292) l1_3.length c1_3] 24 (0, 0)) (by (with_reducible repeat (first | refine blk_drewN ?_ _ | refine blk_drew ?_ | refine blk_alloc ?_ _)); exact BK290.out)) : gb294 ≠ gb290)); clear BK289; clear BK290; clear HB; have BK289 := n0_; have BK290 := n1_; have HB := n2_; have BK294 := n3_; have GW294 := n4_; have GE294 := n5_; have NB289_294 := n6_; have NB294_289 := n7_; have NB290_294 := n8_; have NB294_290 := n9_; clear n0_ n1_ n2_ n3_ n4_ n5_ n6_ n7_ n8_ n9_; clear hb hbox hg; have hnb45 := NB294_289.out; have hnc45 := NB289_294.out; have hnb46 := NB294_290.out; have hnc46 := NB290_294.out; have hcz47_0 : w44.cell? ⟨gb294, 0, none⟩ = some (.int .i64 0) := (blk_cell BK294.out 0).trans rfl; have hcz47_1 : w44.cell? ⟨gb294, 1, none⟩ = some (.int .i64 0) := (blk_cell BK294.out 1).trans rfl; have hcz47_2 : w44.cell? ⟨gb294, 2, none⟩ = some (.int .i64 0) := (blk_cell BK294.out 2).trans rfl; have hcz47_3 : w44.cell? ⟨gb294, 3, none⟩ = some (.int .i64 0) := (blk_cell BK294.out 3).trans rfl; have hfz47_0 := blk_frozen BK294.out 0; have hfz47_1 := blk_frozen BK294.out 1; have hfz47_2 := blk_frozen BK294.out 2; have hfz47_3 := blk_frozen BK294.out 3; have hnb48 := NB290_289.out; have hnc48 := NB289_290.out; have hcz49_0 : w44.cell? ⟨gb290, 0, none⟩ = some (.int .i64 a1_0) := (blk_cell BK290.out 0).trans rfl; have hcz49_1 : w44.cell? ⟨gb290, 1, none⟩ = some (.int .i64 a1_1) := (blk_cell BK290.out 1).trans rfl; have hcz49_2 : w44.cell? ⟨gb290, 2, none⟩ = some (.int .i64 a1_2) := (blk_cell BK290.out 2).trans rfl; have hcz49_3 : w44.cell? ⟨gb290, 3, none⟩ = some (.slice (some ad292) l1_3.length c1_3) := (blk_cell BK290.out 3).trans rfl; have hfz49_0 := blk_frozen BK290.out 0; have hfz49_1 := blk_frozen BK290.out 1; have hfz49_2 := blk_frozen BK290.out 2; have hfz49_3 := blk_frozen BK290.out 3; have p295 : 0 ≤ (x40_2 : Int) := of_decide_eq_true (by first | (with_reducible assumption) | assumption); have q295 : x40_2 < (l1_3.length : Int) := of_decide_eq_true (by first | (with_reducible assumption) | assumption); obtain ⟨ad295, A295_0, c295_0, e295, hx295_0, hl295_0, hi295_0⟩ := at_L2 HR1_3.out x40_2 p295 q295; obtain rfl : ad292 = ad295 := (by injection e295); have hn295_0 : ad292.block ≠ gb294 := Nat.ne_of_lt (Nat.lt_of_lt_of_le (by have := World.block_lt_of_cell? _ _ hx295_0; first | rwa [add_block] at this | exact this) GW294.out); have hn295_1 : ad292.block ≠ gb294 := Nat.ne_of_lt (Nat.lt_of_lt_of_le (by have := World.block_lt_of_cell? _ _ hx295_0; first | rwa [add_block] at this | exact this) GW294.out); have hn295_2 : ad292.block ≠ gb294 := Nat.ne_of_lt (Nat.lt_of_lt_of_le (by have := World.block_lt_of_cell? _ _ hx295_0; first | rwa [add_block] at this | exact this) GW294.out); have hn295_3 : ad292.block ≠ gb294 := Nat.ne_of_lt (Nat.lt_of_lt_of_le (by have := World.block_lt_of_cell? _ _ hx295_0; first | rwa [add_block] at this | exact this) GW294.out); try replace hx295_0 := (HB.out.cell (World.block_lt_of_cell? w _ hx295_0)).trans hx295_0; have HR295_0 := Aside0.mk hi295_0; have HC295_0 := Aside0.mk hl295_0; clear hi295_0 hl295_0; replace hx295_0 := (cell_far (p := ⟨gb294, 0, none⟩) (by first | (rw [add_block]; exact hn295_0) | (show (Addr.add _ _).block ≠ _; rw [add_block]; exact hn295_0) | exact hn295_0) (.int .i64 ((rd_T35 (rd_L2 l0_3 x40_2) x56_3).f0))).trans hx295_0; replace hx295_0 := (cell_far (p := ⟨gb294, 1, none⟩) (by first | (rw [add_block]; exact hn295_1) | (show (Addr.add _ _).block ≠ _; rw [add_block]; exact hn295_1) | exact hn295_1) (.int .i64 ((rd_T35 (rd_L2 l0_3 x40_2) x56_3).f1))).trans hx295_0; replace hx295_0 := (cell_far (p := ⟨gb294, 2, none⟩) (by first | (rw [add_block]; exact hn295_2) | (show (Addr.add _ _).block ≠ _; rw [add_block]; exact hn295_2) | exact hn295_2) (.int .i64 ((rd_T35 (rd_L2 l0_3 x40_2) x56_3).f2))).trans hx295_0; replace hx295_0 := (cell_far (p := ⟨gb294, 3, none⟩) (by first | (rw [add_block]; exact hn295_3) | (show (Addr.add _ _).block ≠ _; rw [add_block]; exact hn295_3) | exact hn295_3) (.int .i64 ((rd_T35 (rd_L2 l0_3 x40_2) x56_3).f3))).trans hx295_0; (try have hy295_0 := fun (n_ : Nat) => (show ((((((w44.drewN n_).setCell ⟨gb294, 0, none⟩ (.int .i64 ((rd_T35 (rd_L2 l0_3 x40_2) x56_3).f0))).setCell ⟨gb294, 1, none⟩ (.int .i64 ((rd_T35 (rd_L2 l0_3 x40_2) x56_3).f1))).setCell ⟨gb294, 2, none⟩ (.int .i64 ((rd_T35 (rd_L2 l0_3 x40_2) x56_3).f2))).setCell ⟨gb294, 3, none⟩ (.int .i64 ((rd_T35 (rd_L2 l0_3 x40_2) x56_3).f3)))).cell? _ = some _ from hx295_0)); clear hn295_0; clear hn295_1; clear hn295_2; clear hn295_3; replace p295 := eq_true p295; replace q295 := eq_true q295; have p296 : 0 ≤ (x56_3 : Int) := of_decide_eq_true (by first | (with_reducible assumption) | assumption); have q296 : x56_3 < ((rd_L2 l1_3 x40_2).length : Int) := of_decide_eq_true (by first | (with_reducible assumption) | assumption); obtain ⟨ad296, e296, hx296_0, hx296_1, hx296_2, hx296_3⟩ := at_T35 HR295_0.out x56_3 p296 q296; cases e296; have hn296_0 : ad296.block ≠ gb294 := Nat.ne_of_lt (Nat.lt_of_lt_of_le (by have := World.block_lt_of_cell? _ _ hx296_0; first | rwa [add_block] at this | exact this) GW294.out); have hn296_1 : ad296.block ≠ gb294 := Nat.ne_of_lt (Nat.lt_of_lt_of_le (by have := World.block_lt_of_cell? _ _ hx296_0; first | rwa [add_block] at this | exact this) GW294.out); have hn296_2 : ad296.block ≠ gb294 := Nat.ne_of_lt (Nat.lt_of_lt_of_le (by have := World.block_lt_of_cell? _ _ hx296_0; first | rwa [add_block] at this | exact this) GW294.out); have hn296_3 : ad296.block ≠ gb294 := Nat.ne_of_lt (Nat.lt_of_lt_of_le (by have := World.block_lt_of_cell? _ _ hx296_0; first | rwa [add_block] at this | exact this) GW294.out); try replace hx296_0 := (HB.out.cell (World.block_lt_of_cell? w _ hx296_0)).trans hx296_0; try replace hx296_1 := (HB.out.cell (World.block_lt_of_cell? w _ hx296_1)).trans hx296_1; try replace hx296_2 := (HB.out.cell (World.block_lt_of_cell? w _ hx296_2)).trans hx296_2; try replace hx296_3 := (HB.out.cell (World.block_lt_of_cell? w _ hx296_3)).trans hx296_3; replace hx296_0 := (cell_far (p := ⟨gb294, 0, none⟩) (by first | (rw [add_block]; exact hn296_0) | (show (Addr.add _ _).block ≠ _; rw [add_block]; exact hn296_0) | exact hn296_0) (.int .i64 ((rd_T35 (rd_L2 l0_3 x40_2) x56_3).f0))).trans hx296_0; replace hx296_1 := (cell_far (p := ⟨gb294, 0, none⟩) (by first | (rw [add_block]; exact hn296_0) | (show (Addr.add _ _).block ≠ _; rw [add_block]; exact hn296_0) | exact hn296_0) (.int .i64 ((rd_T35 (rd_L2 l0_3 x40_2) x56_3).f0))).trans hx296_1; replace hx296_2 := (cell_far (p := ⟨gb294, 0, none⟩) (by first | (rw [add_block]; exact hn296_0) | (show (Addr.add _ _).block ≠ _; rw [add_block]; exact hn296_0) | exact hn296_0) (.int .i64 ((rd_T35 (rd_L2 l0_3 x40_2) x56_3).f0))).trans hx296_2; replace hx296_3 := (cell_far (p := ⟨gb294, 0, none⟩) (by first | (rw [add_block]; exact hn296_0) | (show (Addr.add _ _).block ≠ _; rw [add_block]; exact hn296_0) | exact hn296_0) (.int .i64 ((rd_T35 (rd_L2 l0_3 x40_2) x56_3).f0))).trans hx296_3; replace hx296_0 := (cell_far (p := ⟨gb294, 1, none⟩) (by first | (rw [add_block]; exact hn296_1) | (show (Addr.add _ _).block ≠ _; rw [add_block]; exact hn296_1) | exact hn296_1) (.int .i64 ((rd_T35 (rd_L2 l0_3 x40_2) x56_3).f1))).trans hx296_0; replace hx296_1 := (cell_far (p := ⟨gb294, 1, none⟩) (by first | (rw [add_block]; exact hn296_1) | (show (Addr.add _ _).block ≠ _; rw [add_block]; exact hn296_1) | exact hn296_1) (.int .i64 ((rd_T35 (rd_L2 l0_3 x40_2) x56_3).f1))).trans hx296_1; replace hx296_2 := (cell_far (p := ⟨gb294, 1, none⟩) (by first | (rw [add_block]; exact hn296_1) | (show (Addr.add _ _).block ≠ _; rw [add_block]; exact hn296_1) | exact hn296_1) (.int .i64 ((rd_T35 (rd_L2 l0_3 x40_2) x56_3).f1))).trans hx296_2; replace hx296_3 := (cell_far (p := ⟨gb294, 1, none⟩) (by first | (rw [add_block]; exact hn296_1) | (show (Addr.add _ _).block ≠ _; rw [add_block]; exact hn296_1) | exact hn296_1) (.int .i64 ((rd_T35 (rd_L2 l0_3 x40_2) x56_3).f1))).trans hx296_3; replace hx296_0 := (cell_far (p := ⟨gb294, 2, none⟩) (by first | (rw [add_block]; exact hn296_2) | (show (Addr.add _ _).block ≠ _; rw [add_block]; exact hn296_2) | exact hn296_2) (.int .i64 ((rd_T35 (rd_L2 l0_3 x40_2) x56_3).f2))).trans hx296_0; replace hx296_1 := (cell_far (p := ⟨gb294, 2, none⟩) (by first | (rw [add_block]; exact hn296_2) | (show (Addr.add _ _).block ≠ _; rw [add_block]; exact hn296_2) | exact hn296_2) (.int .i64 ((rd_T35 (rd_L2 l0_3 x40_2) x56_3).f2))).trans hx296_1; replace hx296_2 := (cell_far (p := ⟨gb294, 2, none⟩) (by first | (rw [add_block]; exact hn296_2) | (show (Addr.add _ _).block ≠ _; rw [add_block]; exact hn296_2) | exact hn296_2) (.int .i64 ((rd_T35 (rd_L2 l0_3 x40_2) x56_3).f2))).trans hx296_2; replace hx296_3 := (cell_far (p := ⟨gb294, 2, none⟩) (by first | (rw [add_block]; exact hn296_2) | (show (Addr.add _ _).block ≠ _; rw [add_block]; exact hn296_2) | exact hn296_2) (.int .i64 ((rd_T35 (rd_L2 l0_3 x40_2) x56_3).f2))).trans hx296_3; replace hx296_0 := (cell_far (p := ⟨gb294, 3, none⟩) (by first | (rw [add_block]; exact hn296_3) | (show (Addr.add _ _).block ≠ _; rw [add_block]; exact hn296_3) | exact hn296_3) (.int .i64 ((rd_T35 (rd_L2 l0_3 x40_2) x56_3).f3))).trans hx296_0; replace hx296_1 := (cell_far (p := ⟨gb294, 3, none⟩) (by first | (rw [add_block]; exact hn296_3) | (show (Addr.add _ _).block ≠ _; rw [add_block]; exact hn296_3) | exact hn296_3) (.int .i64 ((rd_T35 (rd_L2 l0_3 x40_2) x56_3).f3))).trans hx296_1; replace hx296_2 := (cell_far (p := ⟨gb294, 3, none⟩) (by first | (rw [add_block]; exact hn296_3) | (show (Addr.add _ _).block ≠ _; rw [add_block]; exact hn296_3) | exact hn296_3) (.int .i64 ((rd_T35 (rd_L2 l0_3 x40_2) x56_3).f3))).trans hx296_2; replace hx296_3 := (cell_far (p := ⟨gb294, 3, none⟩) (by first | (rw [add_block]; exact hn296_3) | (show (Addr.add _ _).block ≠ _; rw [add_block]; exact hn296_3) | exact hn296_3) (.int .i64 ((rd_T35 (rd_L2 l0_3 x40_2) x56_3).f3))).trans hx296_3; (try have hy296_0 := fun (n_ : Nat) => (show ((((((w44.drewN n_).setCell ⟨gb294, 0, none⟩ (.int .i64 ((rd_T35 (rd_L2 l0_3 x40_2) x56_3).f0))).setCell ⟨gb294, 1, none⟩ (.int .i64 ((rd_T35 (rd_L2 l0_3 x40_2) x56_3).f1))).setCell ⟨gb294, 2, none⟩ (.int .i64 ((rd_T35 (rd_L2 l0_3 x40_2) x56_3).f2))).setCell ⟨gb294, 3, none⟩ (.int .i64 ((rd_T35 (rd_L2 l0_3 x40_2) x56_3).f3)))).cell? _ = some _ from hx296_0)); (try have hy296_1 := fun (n_ : Nat) => (show ((((((w44.drewN n_).setCell ⟨gb294, 0, none⟩ (.int .i64 ((rd_T35 (rd_L2 l0_3 x40_2) x56_3).f0))).setCell ⟨gb294, 1, none⟩ (.int .i64 ((rd_T35 (rd_L2 l0_3 x40_2) x56_3).f1))).setCell ⟨gb294, 2, none⟩ (.int .i64 ((rd_T35 (rd_L2 l0_3 x40_2) x56_3).f2))).setCell ⟨gb294, 3, none⟩ (.int .i64 ((rd_T35 (rd_L2 l0_3 x40_2) x56_3).f3)))).cell? _ = some _ from hx296_1)); (try have hy296_2 := fun (n_ : Nat) => (show ((((((w44.drewN n_).setCell ⟨gb294, 0, none⟩ (.int .i64 ((rd_T35 (rd_L2 l0_3 x40_2) x56_3).f0))).setCell ⟨gb294, 1, none⟩ (.int .i64 ((rd_T35 (rd_L2 l0_3 x40_2) x56_3).f1))).setCell ⟨gb294, 2, none⟩ (.int .i64 ((rd_T35 (rd_L2 l0_3 x40_2) x56_3).f2))).setCell ⟨gb294, 3, none⟩ (.int .i64 ((rd_T35 (rd_L2 l0_3 x40_2) x56_3).f3)))).cell? _ = some _ from hx296_2)); (try have hy296_3 := fun (n_ : Nat) => (show ((((((w44.drewN n_).setCell ⟨gb294, 0, none⟩ (.int .i64 ((rd_T35 (rd_L2 l0_3 x40_2) x56_3).f0))).setCell ⟨gb294, 1, none⟩ (.int .i64 ((rd_T35 (rd_L2 l0_3 x40_2) x56_3).f1))).setCell ⟨gb294, 2, none⟩ (.int .i64 ((rd_T35 (rd_L2 l0_3 x40_2) x56_3).f2))).setCell ⟨gb294, 3, none⟩ (.int .i64 ((rd_T35 (rd_L2 l0_3 x40_2) x56_3).f3)))).cell? _ = some _ from hx296_3)); clear hn296_0; clear hn296_1; clear hn296_2; clear hn296_3; replace p296 := eq_true p296; replace q296 := eq_true q296)))
                                        go_roundg k3
                                        case measure => have := HJ2.out; have := HK2.out; have := HK3.out; omega
                                        case rel => exact ⟨(wrap64 (x56_3 + 1)), (by first | rfl | (simp; done) | (simp [*]; done)), H', ⟨by have := HJ2.out; have := HK2.out; have := HK3.out; omega⟩, ⟨by (with_reducible repeat (first | refine blk_drewN ?_ _ | refine blk_drew ?_ | refine blk_alloc ?_ _)); refine blk_far ?_ NB289_294.out _; (with_reducible repeat (first | refine blk_drewN ?_ _ | refine blk_drew ?_ | refine blk_alloc ?_ _)); refine blk_far ?_ NB289_294.out _; (with_reducible repeat (first | refine blk_drewN ?_ _ | refine blk_drew ?_ | refine blk_alloc ?_ _)); refine blk_far ?_ NB289_294.out _; (with_reducible repeat (first | refine blk_drewN ?_ _ | refine blk_drew ?_ | refine blk_alloc ?_ _)); refine blk_far ?_ NB289_294.out _; (with_reducible repeat (first | refine blk_drewN ?_ _ | refine blk_drew ?_ | refine blk_alloc ?_ _)); exact BK289.out⟩, ⟨by (with_reducible repeat (first | refine blk_drewN ?_ _ | refine blk_drew ?_ | refine blk_alloc ?_ _)); refine blk_far ?_ NB290_294.out _; (with_reducible repeat (first | refine blk_drewN ?_ _ | refine blk_drew ?_ | refine blk_alloc ?_ _)); refine blk_far ?_ NB290_294.out _; (with_reducible repeat (first | refine blk_drewN ?_ _ | refine blk_drew ?_ | refine blk_alloc ?_ _)); refine blk_far ?_ NB290_294.out _; (with_reducible repeat (first | refine blk_drewN ?_ _ | refine blk_drew ?_ | refine blk_alloc ?_ _)); refine blk_far ?_ NB290_294.out _; (with_reducible repeat (first | refine blk_drewN ?_ _ | refine blk_drew ?_ | refine blk_alloc ?_ _)); exact BK290.out⟩, ⟨by repeat (first | (with_reducible first | exact HB.out | apply below_alloc | apply pw_below_drewN | apply below_drew1 | refine below_set ?_ GE289.out | refine below_set ?_ GE290.out | refine below_set ?_ GE294.out) | exact HB.out)⟩⟩
                                    · rw [if_neg c36] at H
                                      exact absurd H (by simp)
                                  · rw [if_neg c35] at H
                                    exact absurd H (by simp)
                                · rw [if_neg c34] at H
                                  exact absurd H (by simp)
                              · rw [if_neg c33] at H
                                exact absurd H (by simp)
                            · rw [if_neg c32] at H
                              exact absurd H (by simp)
                          · rw [if_neg c31] at H
                            have c31b0 : decide (x56_3 < ((rd_L2 l0_3 x40_2).length : Int)) = false := decide_eq_false c31
                            clear c31
                            have H' := Aside0.mk H
                            clear H
                            go_wp2
                            repeat (go_quiet (fail); try go_wp2)
                            go_roundg k3
                            case measure => have := HJ2.out; have := HK2.out; have := HK3.out; omega
                            case rel => exact ⟨(wrap64 (x40_2 + 1)), (by first | rfl | (simp; done) | (simp [*]; done)), H', ⟨by have := HJ2.out; have := HK2.out; have := HK3.out; omega⟩, ⟨by (with_reducible repeat (first | refine blk_drewN ?_ _ | refine blk_drew ?_ | refine blk_alloc ?_ _)); exact BK289.out⟩, ⟨by (with_reducible repeat (first | refine blk_drewN ?_ _ | refine blk_drew ?_ | refine blk_alloc ?_ _)); exact BK290.out⟩, ⟨by repeat (first | (with_reducible first | exact HB.out | apply below_alloc | apply pw_below_drewN | apply below_drew1 | refine below_set ?_ GE289.out | refine below_set ?_ GE290.out) | exact HB.out)⟩⟩
                    · rw [if_neg c28] at H
                      have c28b0 : (((rd_L2 l0_3 x40_2).length : Int) == ((rd_L2 l1_3 x40_2).length : Int)) = false := beq_eq_false_iff_ne.mpr c28
                      have c28b1 : (((rd_L2 l0_3 x40_2).length : Int) != ((rd_L2 l1_3 x40_2).length : Int)) = true := bne_iff_ne.mpr c28
                      have c28b2 : ((rd_L2 l0_3 x40_2).length == (rd_L2 l1_3 x40_2).length) = false := by first | simpa using c28 | (simp at c28 ⊢; omega)
                      obtain rfl := Option.some.inj H
                      have p291 : 0 ≤ (x40_2 : Int) := of_decide_eq_true (by first | (with_reducible assumption) | assumption)
                      have q291 : x40_2 < (l0_3.length : Int) := of_decide_eq_true (by first | (with_reducible assumption) | assumption)
                      obtain ⟨ad291, A291_0, c291_0, e291, hx291_0, hl291_0, hi291_0⟩ := at_L2 HR0_3.out x40_2 p291 q291
                      cases e291
                      try replace hx291_0 := (HB.out.cell (World.block_lt_of_cell? w _ hx291_0)).trans hx291_0
                      have HR291_0 := Aside0.mk hi291_0
                      have HC291_0 := Aside0.mk hl291_0
                      clear hi291_0 hl291_0
                      replace p291 := eq_true p291
                      replace q291 := eq_true q291
                      have hnb50 := NB290_289.out
                      have hnc50 := NB289_290.out
                      have hcz51_0 : wr.cell? ⟨gb290, 0, none⟩ = some (.int .i64 a1_0) := (blk_cell BK290.out 0).trans rfl
                      have hcz51_1 : wr.cell? ⟨gb290, 1, none⟩ = some (.int .i64 a1_1) := (blk_cell BK290.out 1).trans rfl
                      have hcz51_2 : wr.cell? ⟨gb290, 2, none⟩ = some (.int .i64 a1_2) := (blk_cell BK290.out 2).trans rfl
                      have hcz51_3 : wr.cell? ⟨gb290, 3, none⟩ = some (.slice A1_3 l1_3.length c1_3) := (blk_cell BK290.out 3).trans rfl
                      have hfz51_0 := blk_frozen BK290.out 0
                      have hfz51_1 := blk_frozen BK290.out 1
                      have hfz51_2 := blk_frozen BK290.out 2
                      have hfz51_3 := blk_frozen BK290.out 3
                      have p292 : 0 ≤ (x40_2 : Int) := of_decide_eq_true (by first | (with_reducible assumption) | assumption)
                      have q292 : x40_2 < (l1_3.length : Int) := of_decide_eq_true (by first | (with_reducible assumption) | assumption)
                      obtain ⟨ad292, A292_0, c292_0, e292, hx292_0, hl292_0, hi292_0⟩ := at_L2 HR1_3.out x40_2 p292 q292
                      cases e292
                      try replace hx292_0 := (HB.out.cell (World.block_lt_of_cell? w _ hx292_0)).trans hx292_0
                      have HR292_0 := Aside0.mk hi292_0
                      have HC292_0 := Aside0.mk hl292_0
                      clear hi292_0 hl292_0
                      replace p292 := eq_true p292
                      replace q292 := eq_true q292
                      go_wp2
                      repeat (go_quiet (fail); try go_wp2)
                      go_ret
                      exact ⟨by first | rfl | (simp [errW_none, errW_some] <;> rfl) | (simp [*, errW_none, errW_some] <;> rfl), by repeat (first | (with_reducible first | exact HB.out | apply below_alloc | apply pw_below_drewN | apply below_drew1 | refine below_set ?_ GE289.out | refine below_set ?_ GE290.out) | exact HB.out)⟩
                  · rw [if_neg c27] at H
                    exact absurd H (by simp)
                · rw [if_neg c26] at H
                  exact absurd H (by simp)
              · rw [if_neg c25] at H
                exact absurd H (by simp)
            · rw [if_neg c24] at H
              have c24b0 : decide (x40_2 < (l0_3.length : Int)) = false := decide_eq_false c24
              clear c24
              obtain rfl := Option.some.inj H
              go_wp2
              repeat (go_quiet (fail); try go_wp2)
              go_ret
              exact ⟨by first | rfl | (simp [errW_none, errW_some] <;> rfl) | (simp [*, errW_none, errW_some] <;> rfl), by repeat (first | (with_reducible first | exact HB.out | apply below_alloc | apply pw_below_drewN | apply below_drew1 | refine below_set ?_ GE289.out | refine below_set ?_ GE290.out) | exact HB.out)⟩

end Go.Proofs.Ytpbbkfekibmaiaa.Q
