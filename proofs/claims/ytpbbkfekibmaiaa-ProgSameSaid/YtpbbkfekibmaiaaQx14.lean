-- Written by this session's wip/myprint.sh (a variant of the kit's printer); Lean checks it.
import Derived.Test.YtpbbkfekibmaiaaQx0
import Derived.Test.YtpbbkfekibmaiaaQx1
namespace Go.Proofs.Ytpbbkfekibmaiaa.Q
open Go.RowKit Go.Proofs.YtpbbkfekibmaiaaW.PrintWords Go.Proofs.YtpbbkfekibmaiaaW.PrintLast Go.Proofs.YtpbbkfekibmaiaaW.PrintMore
attribute [local go_sem] max2_int min2_int max_two min_two max_three min_three max_four min_four   -- for this text's walks alone
set_option linter.unusedVariables false
set_option linter.unusedSimpArgs false

attribute [local go_sem high] eqA35
/-! ### alibiref05_Same: function 19 -/
mutual
def alibiref05_Same.j0 : Nat → Bool → Int → Int → Int → List (List (S35)) → Int → Int → Int → List (List (S35)) → Option (Bool)
  | 0, _, _, _, _, _, _, _, _, _ => none
  | k + 1, x34, x298000, x298001, x298002, x298003, x299000, x299001, x299002, x299003 => if x34 = true then (some false) else (alibiref05_Same.l0 k 0 x298000 x298001 x298002 x298003 x299000 x299001 x299002 x299003)
def alibiref05_Same.l0 : Nat → Int → Int → Int → Int → List (List (S35)) → Int → Int → Int → List (List (S35)) → Option (Bool)
  | 0, _, _, _, _, _, _, _, _, _ => none
  | k + 1, x5, x298000, x298001, x298002, x298003, x299000, x299001, x299002, x299003 => if x5 < (x298003.length : Int) then (if 0 ≤ x5 then (if x5 < (x299003.length : Int) then (if ((rd_L2 x298003 x5).length : Int) = ((rd_L2 x299003 x5).length : Int) then (alibiref05_Same.l1 k x5 0 x298000 x298001 x298002 x298003 x299000 x299001 x299002 x299003) else (some false)) else (none)) else (none)) else (some true)
def alibiref05_Same.l1 : Nat → Int → Int → Int → Int → Int → List (List (S35)) → Int → Int → Int → List (List (S35)) → Option (Bool)
  | 0, _, _, _, _, _, _, _, _, _, _ => none
  | k + 1, x5, x6, x298000, x298001, x298002, x298003, x299000, x299001, x299002, x299003 => if 0 ≤ x5 then (if x5 < (x298003.length : Int) then (if x6 < ((rd_L2 x298003 x5).length : Int) then (if 0 ≤ x6 then (if x5 < (x299003.length : Int) then (if x6 < ((rd_L2 x299003 x5).length : Int) then (if (!(((rd_T35 (rd_L2 x298003 x5) x6).f0) == ((rd_T35 (rd_L2 x299003 x5) x6).f0)) || (!(((rd_T35 (rd_L2 x298003 x5) x6).f1) == ((rd_T35 (rd_L2 x299003 x5) x6).f1)) || (!(((rd_T35 (rd_L2 x298003 x5) x6).f2) == ((rd_T35 (rd_L2 x299003 x5) x6).f2)) || (!(((rd_T35 (rd_L2 x298003 x5) x6).f3) == ((rd_T35 (rd_L2 x299003 x5) x6).f3)))))) = true then (some false) else (alibiref05_Same.l1 k x5 (wrap64 (x6 + 1)) x298000 x298001 x298002 x298003 x299000 x299001 x299002 x299003)) else (none)) else (none)) else (none)) else (alibiref05_Same.l0 k (wrap64 (x5 + 1)) x298000 x298001 x298002 x298003 x299000 x299001 x299002 x299003)) else (none)) else (none)
end
def alibiref05_Same.f (k : Nat) (a0_0 : Int) (a0_1 : Int) (a0_2 : Int) (l0_3 : List (List (S35))) (a1_0 : Int) (a1_1 : Int) (a1_2 : Int) (l1_3 : List (List (S35))) : Option (Bool) := if a0_0 = a1_0 then (if a0_1 = a1_1 then (if a0_2 = a1_2 then (alibiref05_Same.j0 k ((l0_3.length : Int) != (l1_3.length : Int)) a0_0 a0_1 a0_2 l0_3 a1_0 a1_1 a1_2 l1_3) else (alibiref05_Same.j0 k true a0_0 a0_1 a0_2 l0_3 a1_0 a1_1 a1_2 l1_3)) else (alibiref05_Same.j0 k true a0_0 a0_1 a0_2 l0_3 a1_0 a1_1 a1_2 l1_3)) else (alibiref05_Same.j0 k true a0_0 a0_1 a0_2 l0_3 a1_0 a1_1 a1_2 l1_3)
theorem alibiref05_Same.mono_l : ∀ k, (∀ y0 y1 y2 y3 y4 y5 y6 y7 y8, LeO (alibiref05_Same.j0 k y0 y1 y2 y3 y4 y5 y6 y7 y8) (alibiref05_Same.j0 (k + 1) y0 y1 y2 y3 y4 y5 y6 y7 y8)) ∧ (∀ y0 y1 y2 y3 y4 y5 y6 y7 y8, LeO (alibiref05_Same.l0 k y0 y1 y2 y3 y4 y5 y6 y7 y8) (alibiref05_Same.l0 (k + 1) y0 y1 y2 y3 y4 y5 y6 y7 y8)) ∧ (∀ y0 y1 y2 y3 y4 y5 y6 y7 y8 y9, LeO (alibiref05_Same.l1 k y0 y1 y2 y3 y4 y5 y6 y7 y8 y9) (alibiref05_Same.l1 (k + 1) y0 y1 y2 y3 y4 y5 y6 y7 y8 y9))
  | 0 => ⟨fun _ _ _ _ _ _ _ _ _ r h => by simp [alibiref05_Same.j0] at h, fun _ _ _ _ _ _ _ _ _ r h => by simp [alibiref05_Same.l0] at h, fun _ _ _ _ _ _ _ _ _ _ r h => by simp [alibiref05_Same.l1] at h⟩
  | k + 1 => by
    obtain ⟨ih0, ih1, ih2⟩ := alibiref05_Same.mono_l k
    refine ⟨?_, ?_, ?_⟩
    · intro y0 y1 y2 y3 y4 y5 y6 y7 y8
      unfold alibiref05_Same.j0
      repeat' first
      | (with_reducible exact ih0 _ _ _ _ _ _ _ _ _)
      | (with_reducible exact ih1 _ _ _ _ _ _ _ _ _)
      | (with_reducible exact ih2 _ _ _ _ _ _ _ _ _ _)
      | (with_reducible exact LeO.refl _)
      | (with_reducible exact LeO.none _)
      | (with_reducible refine LeO.ite ?_ ?_)
      | (with_reducible refine LeO.bind ?_ (fun _ => ?_))
      | exact ih0 _ _ _ _ _ _ _ _ _
      | exact ih1 _ _ _ _ _ _ _ _ _
      | exact ih2 _ _ _ _ _ _ _ _ _ _
      | exact LeO.none _
      | refine LeO.ite ?_ ?_
      | refine LeO.bind ?_ (fun _ => ?_)
    · intro y0 y1 y2 y3 y4 y5 y6 y7 y8
      unfold alibiref05_Same.l0
      repeat' first
      | (with_reducible exact ih0 _ _ _ _ _ _ _ _ _)
      | (with_reducible exact ih1 _ _ _ _ _ _ _ _ _)
      | (with_reducible exact ih2 _ _ _ _ _ _ _ _ _ _)
      | (with_reducible exact LeO.refl _)
      | (with_reducible exact LeO.none _)
      | (with_reducible refine LeO.ite ?_ ?_)
      | (with_reducible refine LeO.bind ?_ (fun _ => ?_))
      | exact ih0 _ _ _ _ _ _ _ _ _
      | exact ih1 _ _ _ _ _ _ _ _ _
      | exact ih2 _ _ _ _ _ _ _ _ _ _
      | exact LeO.none _
      | refine LeO.ite ?_ ?_
      | refine LeO.bind ?_ (fun _ => ?_)
    · intro y0 y1 y2 y3 y4 y5 y6 y7 y8 y9
      unfold alibiref05_Same.l1
      repeat' first
      | (with_reducible exact ih0 _ _ _ _ _ _ _ _ _)
      | (with_reducible exact ih1 _ _ _ _ _ _ _ _ _)
      | (with_reducible exact ih2 _ _ _ _ _ _ _ _ _ _)
      | (with_reducible exact LeO.refl _)
      | (with_reducible exact LeO.none _)
      | (with_reducible refine LeO.ite ?_ ?_)
      | (with_reducible refine LeO.bind ?_ (fun _ => ?_))
      | exact ih0 _ _ _ _ _ _ _ _ _
      | exact ih1 _ _ _ _ _ _ _ _ _
      | exact ih2 _ _ _ _ _ _ _ _ _ _
      | exact LeO.none _
      | refine LeO.ite ?_ ?_
      | refine LeO.bind ?_ (fun _ => ?_)
theorem alibiref05_Same.mono : ∀ a0 a1 a2 a3 a4 a5 a6 a7 k, LeO (alibiref05_Same.f k a0 a1 a2 a3 a4 a5 a6 a7) (alibiref05_Same.f (k + 1) a0 a1 a2 a3 a4 a5 a6 a7) := by
  intro a0 a1 a2 a3 a4 a5 a6 a7 k
  obtain ⟨ih0, ih1, ih2⟩ := alibiref05_Same.mono_l k
  unfold alibiref05_Same.f
  repeat' first
      | (with_reducible exact ih0 _ _ _ _ _ _ _ _ _)
      | (with_reducible exact ih1 _ _ _ _ _ _ _ _ _)
      | (with_reducible exact ih2 _ _ _ _ _ _ _ _ _ _)
      | (with_reducible exact LeO.refl _)
      | (with_reducible exact LeO.none _)
      | (with_reducible refine LeO.ite ?_ ?_)
      | (with_reducible refine LeO.bind ?_ (fun _ => ?_))
      | exact ih0 _ _ _ _ _ _ _ _ _
      | exact ih1 _ _ _ _ _ _ _ _ _
      | exact ih2 _ _ _ _ _ _ _ _ _ _
      | exact LeO.none _
      | refine LeO.ite ?_ ?_
      | refine LeO.bind ?_ (fun _ => ?_)
set_option maxHeartbeats 8000000 in
set_option maxRecDepth 100000 in
theorem alibiref05_Same.calls (k : Nat) (a0_0 : Int) (a0_1 : Int) (a0_2 : Int) (A0_3 : Option Addr) (c0_3 : Nat) (l0_3 : List (List (S35))) (a1_0 : Int) (a1_1 : Int) (a1_2 : Int) (A1_3 : Option Addr) (c1_3 : Nat) (l1_3 : List (List (S35))) (r : Bool) (w : World) (hr0_3 : Kd.C (Kd.slice 35 k35) w A0_3 l0_3.length l0_3) (hc0_3 : l0_3.length ≤ c0_3) (hr1_3 : Kd.C (Kd.slice 35 k35) w A1_3 l1_3.length l1_3) (hc1_3 : l1_3.length ≤ c1_3) (h : alibiref05_Same.f k a0_0 a0_1 a0_2 l0_3 a1_0 a1_1 a1_2 l1_3 = some r) :
    Calls Try.prog 19 #[.agg #[.int .i64 a0_0, .int .i64 a0_1, .int .i64 a0_2, .slice A0_3 l0_3.length c0_3], .agg #[.int .i64 a1_0, .int .i64 a1_1, .int .i64 a1_2, .slice A1_3 l1_3.length c1_3]] w fun e w' => e = .returned (.bool r) ∧ Below w.heap.size w w' := by
  have hu24 := Try.underlying24
  have hu35 := Try.underlying35
  have HR0_3 := Aside0.mk hr0_3
  have HC0_3 := Aside0.mk hc0_3
  clear hr0_3 hc0_3
  have HR1_3 := Aside0.mk hr1_3
  have HC1_3 := Aside0.mk hc1_3
  clear hr1_3 hc1_3
  have HB := Aside0.mk (Below.refl w.heap.size w)
  have H : (if a0_0 = a1_0 then (if a0_1 = a1_1 then (if a0_2 = a1_2 then (alibiref05_Same.j0 k ((l0_3.length : Int) != (l1_3.length : Int)) a0_0 a0_1 a0_2 l0_3 a1_0 a1_1 a1_2 l1_3) else (alibiref05_Same.j0 k true a0_0 a0_1 a0_2 l0_3 a1_0 a1_1 a1_2 l1_3)) else (alibiref05_Same.j0 k true a0_0 a0_1 a0_2 l0_3 a1_0 a1_1 a1_2 l1_3)) else (alibiref05_Same.j0 k true a0_0 a0_1 a0_2 l0_3 a1_0 a1_1 a1_2 l1_3)) = some r := h
  clear h
  have HC3 := Aside0.mk H
  clear H
  go_enter Try.func19, Try.ntmps19
  go_upto_region 1 with (first | ((with_reducible refine gate_dst (N := 2) rfl ?_); (try (refine gate_guard (by rfl) ?_; dsimp only)); refine box_event ?hg (N := 2) ?hd (cs := #[.int .i64 a0_0, .int .i64 a0_1, .int .i64 a0_2, .slice A0_3 l0_3.length c0_3]) (t := 24) ?hr ?_; (case hd => rfl); (case hg => rfl); (case hr => first | (go_simp; done) | (go_simp; rfl)); intro gb297 hg w4 hbox hb; have n0_ := Aside0.mk (below_step (by repeat (first | (with_reducible first | exact HB.out | apply below_alloc | apply pw_below_drewN | apply below_drew1) | exact HB.out)) hb); have n1_ := Aside0.mk (hbox); have n2_ := Aside0.mk ((by rw [hg]; exact (below_size (by repeat (first | (with_reducible first | exact HB.out | apply below_alloc | apply pw_below_drewN | apply below_drew1) | exact HB.out))) : w.heap.size ≤ gb297)); have n3_ := Aside0.mk ((by rw [hg]; exact (below_size (by repeat (first | (with_reducible first | exact HB.out | apply below_alloc | apply pw_below_drewN | apply below_drew1) | exact HB.out))) : w.heap.size ≤ gb297)); clear HB; have HB := n0_; have BK297 := n1_; have GW297 := n2_; have GE297 := n3_; clear n0_ n1_ n2_ n3_; clear hb hbox hg) | ((with_reducible refine gate_dst (N := 3) rfl ?_); (try (refine gate_guard (by rfl) ?_; dsimp only)); refine box_event ?hg (N := 3) ?hd (cs := #[.int .i64 a1_0, .int .i64 a1_1, .int .i64 a1_2, .slice A1_3 l1_3.length c1_3]) (t := 24) ?hr ?_; (case hd => rfl); (case hg => rfl); (case hr => first | (go_simp; done) | (go_simp; rfl)); intro gb298 hg w5 hbox hb; have n0_ := Aside0.mk (blk_below (g := gb297) (o := .cells #[.int .i64 a0_0, .int .i64 a0_1, .int .i64 a0_2, .slice A0_3 l0_3.length c0_3] 24 (0, 0)) (by (with_reducible repeat (first | refine blk_drewN ?_ _ | refine blk_drew ?_ | refine blk_alloc ?_ _)); exact BK297.out) hb); have n1_ := Aside0.mk (below_step (by repeat (first | (with_reducible first | exact HB.out | apply below_alloc | apply pw_below_drewN | apply below_drew1 | refine below_set ?_ GE297.out) | exact HB.out)) hb); have n2_ := Aside0.mk (hbox); have n3_ := Aside0.mk ((by rw [hg]; exact (below_size (by repeat (first | (with_reducible first | exact HB.out | apply below_alloc | apply pw_below_drewN | apply below_drew1 | refine below_set ?_ GE297.out) | exact HB.out))) : w.heap.size ≤ gb298)); have n4_ := Aside0.mk ((by rw [hg]; exact (below_size (by repeat (first | (with_reducible first | exact HB.out | apply below_alloc | apply pw_below_drewN | apply below_drew1 | refine below_set ?_ GE297.out) | exact HB.out))) : w.heap.size ≤ gb298)); have n5_ := Aside0.mk ((by rw [hg]; exact Nat.ne_of_lt (blk_lt (g := gb297) (o := .cells #[.int .i64 a0_0, .int .i64 a0_1, .int .i64 a0_2, .slice A0_3 l0_3.length c0_3] 24 (0, 0)) (by (with_reducible repeat (first | refine blk_drewN ?_ _ | refine blk_drew ?_ | refine blk_alloc ?_ _)); exact BK297.out)) : gb297 ≠ gb298)); have n6_ := Aside0.mk ((by rw [hg]; exact Nat.ne_of_gt (blk_lt (g := gb297) (o := .cells #[.int .i64 a0_0, .int .i64 a0_1, .int .i64 a0_2, .slice A0_3 l0_3.length c0_3] 24 (0, 0)) (by (with_reducible repeat (first | refine blk_drewN ?_ _ | refine blk_drew ?_ | refine blk_alloc ?_ _)); exact BK297.out)) : gb298 ≠ gb297)); clear BK297; clear HB; have BK297 := n0_; have HB := n1_; have BK298 := n2_; have GW298 := n3_; have GE298 := n4_; have NB297_298 := n5_; have NB298_297 := n6_; clear n0_ n1_ n2_ n3_ n4_ n5_ n6_; clear hb hbox hg))
  repeat (go_quiet (first | ((with_reducible refine gate_dst (N := 2) rfl ?_); (try (refine gate_guard (by rfl) ?_; dsimp only)); refine box_event ?hg (N := 2) ?hd (cs := #[.int .i64 a0_0, .int .i64 a0_1, .int .i64 a0_2, .slice A0_3 l0_3.length c0_3]) (t := 24) ?hr ?_; (case hd => rfl); (case hg => rfl); (case hr => first | (go_simp; done) | (go_simp; rfl)); intro gb297 hg w4 hbox hb; have n0_ := Aside0.mk (below_step (by repeat (first | (with_reducible first | exact HB.out | apply below_alloc | apply pw_below_drewN | apply below_drew1) | exact HB.out)) hb); have n1_ := Aside0.mk (hbox); have n2_ := Aside0.mk ((by rw [hg]; exact (below_size (by repeat (first | (with_reducible first | exact HB.out | apply below_alloc | apply pw_below_drewN | apply below_drew1) | exact HB.out))) : w.heap.size ≤ gb297)); have n3_ := Aside0.mk ((by rw [hg]; exact (below_size (by repeat (first | (with_reducible first | exact HB.out | apply below_alloc | apply pw_below_drewN | apply below_drew1) | exact HB.out))) : w.heap.size ≤ gb297)); clear HB; have HB := n0_; have BK297 := n1_; have GW297 := n2_; have GE297 := n3_; clear n0_ n1_ n2_ n3_; clear hb hbox hg) | ((with_reducible refine gate_dst (N := 3) rfl ?_); (try (refine gate_guard (by rfl) ?_; dsimp only)); refine box_event ?hg (N := 3) ?hd (cs := #[.int .i64 a1_0, .int .i64 a1_1, .int .i64 a1_2, .slice A1_3 l1_3.length c1_3]) (t := 24) ?hr ?_; (case hd => rfl); (case hg => rfl); (case hr => first | (go_simp; done) | (go_simp; rfl)); intro gb298 hg w5 hbox hb; have n0_ := Aside0.mk (blk_below (g := gb297) (o := .cells #[.int .i64 a0_0, .int .i64 a0_1, .int .i64 a0_2, .slice A0_3 l0_3.length c0_3] 24 (0, 0)) (by (with_reducible repeat (first | refine blk_drewN ?_ _ | refine blk_drew ?_ | refine blk_alloc ?_ _)); exact BK297.out) hb); have n1_ := Aside0.mk (below_step (by repeat (first | (with_reducible first | exact HB.out | apply below_alloc | apply pw_below_drewN | apply below_drew1 | refine below_set ?_ GE297.out) | exact HB.out)) hb); have n2_ := Aside0.mk (hbox); have n3_ := Aside0.mk ((by rw [hg]; exact (below_size (by repeat (first | (with_reducible first | exact HB.out | apply below_alloc | apply pw_below_drewN | apply below_drew1 | refine below_set ?_ GE297.out) | exact HB.out))) : w.heap.size ≤ gb298)); have n4_ := Aside0.mk ((by rw [hg]; exact (below_size (by repeat (first | (with_reducible first | exact HB.out | apply below_alloc | apply pw_below_drewN | apply below_drew1 | refine below_set ?_ GE297.out) | exact HB.out))) : w.heap.size ≤ gb298)); have n5_ := Aside0.mk ((by rw [hg]; exact Nat.ne_of_lt (blk_lt (g := gb297) (o := .cells #[.int .i64 a0_0, .int .i64 a0_1, .int .i64 a0_2, .slice A0_3 l0_3.length c0_3] 24 (0, 0)) (by (with_reducible repeat (first | refine blk_drewN ?_ _ | refine blk_drew ?_ | refine blk_alloc ?_ _)); exact BK297.out)) : gb297 ≠ gb298)); have n6_ := Aside0.mk ((by rw [hg]; exact Nat.ne_of_gt (blk_lt (g := gb297) (o := .cells #[.int .i64 a0_0, .int .i64 a0_1, .int .i64 a0_2, .slice A0_3 l0_3.length c0_3] 24 (0, 0)) (by (with_reducible repeat (first | refine blk_drewN ?_ _ | refine blk_drew ?_ | refine blk_alloc ?_ _)); exact BK297.out)) : gb298 ≠ gb297)); clear BK297; clear HB; have BK297 := n0_; have HB := n1_; have BK298 := n2_; have GW298 := n3_; have GE298 := n4_; have NB297_298 := n5_; have NB298_297 := n6_; clear n0_ n1_ n2_ n3_ n4_ n5_ n6_; clear hb hbox hg)); go_upto_region 1 with (first | ((with_reducible refine gate_dst (N := 2) rfl ?_); (try (refine gate_guard (by rfl) ?_; dsimp only)); refine box_event ?hg (N := 2) ?hd (cs := #[.int .i64 a0_0, .int .i64 a0_1, .int .i64 a0_2, .slice A0_3 l0_3.length c0_3]) (t := 24) ?hr ?_; (case hd => rfl); (case hg => rfl); (case hr => first | (go_simp; done) | (go_simp; rfl)); intro gb297 hg w4 hbox hb; have n0_ := Aside0.mk (below_step (by repeat (first | (with_reducible first | exact HB.out | apply below_alloc | apply pw_below_drewN | apply below_drew1) | exact HB.out)) hb); have n1_ := Aside0.mk (hbox); have n2_ := Aside0.mk ((by rw [hg]; exact (below_size (by repeat (first | (with_reducible first | exact HB.out | apply below_alloc | apply pw_below_drewN | apply below_drew1) | exact HB.out))) : w.heap.size ≤ gb297)); have n3_ := Aside0.mk ((by rw [hg]; exact (below_size (by repeat (first | (with_reducible first | exact HB.out | apply below_alloc | apply pw_below_drewN | apply below_drew1) | exact HB.out))) : w.heap.size ≤ gb297)); clear HB; have HB := n0_; have BK297 := n1_; have GW297 := n2_; have GE297 := n3_; clear n0_ n1_ n2_ n3_; clear hb hbox hg) | ((with_reducible refine gate_dst (N := 3) rfl ?_); (try (refine gate_guard (by rfl) ?_; dsimp only)); refine box_event ?hg (N := 3) ?hd (cs := #[.int .i64 a1_0, .int .i64 a1_1, .int .i64 a1_2, .slice A1_3 l1_3.length c1_3]) (t := 24) ?hr ?_; (case hd => rfl); (case hg => rfl); (case hr => first | (go_simp; done) | (go_simp; rfl)); intro gb298 hg w5 hbox hb; have n0_ := Aside0.mk (blk_below (g := gb297) (o := .cells #[.int .i64 a0_0, .int .i64 a0_1, .int .i64 a0_2, .slice A0_3 l0_3.length c0_3] 24 (0, 0)) (by (with_reducible repeat (first | refine blk_drewN ?_ _ | refine blk_drew ?_ | refine blk_alloc ?_ _)); exact BK297.out) hb); have n1_ := Aside0.mk (below_step (by repeat (first | (with_reducible first | exact HB.out | apply below_alloc | apply pw_below_drewN | apply below_drew1 | refine below_set ?_ GE297.out) | exact HB.out)) hb); have n2_ := Aside0.mk (hbox); have n3_ := Aside0.mk ((by rw [hg]; exact (below_size (by repeat (first | (with_reducible first | exact HB.out | apply below_alloc | apply pw_below_drewN | apply below_drew1 | refine below_set ?_ GE297.out) | exact HB.out))) : w.heap.size ≤ gb298)); have n4_ := Aside0.mk ((by rw [hg]; exact (below_size (by repeat (first | (with_reducible first | exact HB.out | apply below_alloc | apply pw_below_drewN | apply below_drew1 | refine below_set ?_ GE297.out) | exact HB.out))) : w.heap.size ≤ gb298)); have n5_ := Aside0.mk ((by rw [hg]; exact Nat.ne_of_lt (blk_lt (g := gb297) (o := .cells #[.int .i64 a0_0, .int .i64 a0_1, .int .i64 a0_2, .slice A0_3 l0_3.length c0_3] 24 (0, 0)) (by (with_reducible repeat (first | refine blk_drewN ?_ _ | refine blk_drew ?_ | refine blk_alloc ?_ _)); exact BK297.out)) : gb297 ≠ gb298)); have n6_ := Aside0.mk ((by rw [hg]; exact Nat.ne_of_gt (blk_lt (g := gb297) (o := .cells #[.int .i64 a0_0, .int .i64 a0_1, .int .i64 a0_2, .slice A0_3 l0_3.length c0_3] 24 (0, 0)) (by (with_reducible repeat (first | refine blk_drewN ?_ _ | refine blk_drew ?_ | refine blk_alloc ?_ _)); exact BK297.out)) : gb298 ≠ gb297)); clear BK297; clear HB; have BK297 := n0_; have HB := n1_; have BK298 := n2_; have GW298 := n3_; have GE298 := n4_; have NB297_298 := n5_; have NB298_297 := n6_; clear n0_ n1_ n2_ n3_ n4_ n5_ n6_; clear hb hbox hg)))
  (try simp only [Act.put, List.setIfInBounds_toArray, List.set_cons_zero, List.set_cons_succ])
  go_cut [34] (fun v34 wc => ∃ (kq : Nat) (x34_2 : Bool), v34 = .bool x34_2 ∧ Aside0 (alibiref05_Same.j0 kq x34_2 a0_0 a0_1 a0_2 l0_3 a1_0 a1_1 a1_2 l1_3 = some r) ∧ Aside0 (kq ≤ k) ∧ Aside0 (wc.heap[gb297]? = some (.cells #[.int .i64 a0_0, .int .i64 a0_1, .int .i64 a0_2, (.slice A0_3 l0_3.length c0_3)] 24 (0, 0))) ∧ Aside0 (wc.heap[gb298]? = some (.cells #[.int .i64 a1_0, .int .i64 a1_1, .int .i64 a1_2, (.slice A1_3 l1_3.length c1_3)] 24 (0, 0))) ∧ Aside0 (Below w.heap.size w wc))
  case first =>
    have H := HC3.out
    clear HC3
    by_cases c6 : a0_0 = a1_0
    · rw [if_pos c6] at H
      have c6b0 : (a0_0 == a1_0) = true := beq_iff_eq.mpr c6
      have c6b1 : (a0_0 != a1_0) = false := bne_eq_false_iff_eq.mpr c6
      clear c6
      (first | rw [c6b0] | (simp only [i64_w, i32_w]; rw [c6b0]) | skip)
      by_cases c7 : a0_1 = a1_1
      · rw [if_pos c7] at H
        have c7b0 : (a0_1 == a1_1) = true := beq_iff_eq.mpr c7
        have c7b1 : (a0_1 != a1_1) = false := bne_eq_false_iff_eq.mpr c7
        clear c7
        by_cases c8 : a0_2 = a1_2
        · rw [if_pos c8] at H
          have c8b0 : (a0_2 == a1_2) = true := beq_iff_eq.mpr c8
          have c8b1 : (a0_2 != a1_2) = false := bne_eq_false_iff_eq.mpr c8
          clear c8
          have H' := Aside0.mk H
          clear H
          have hnb9 := NB297_298.out
          have hnc9 := NB298_297.out
          have hcz10_0 : w5.cell? ⟨gb297, 0, none⟩ = some (.int .i64 a0_0) := (blk_cell BK297.out 0).trans rfl
          have hcz10_1 : w5.cell? ⟨gb297, 1, none⟩ = some (.int .i64 a0_1) := (blk_cell BK297.out 1).trans rfl
          have hcz10_2 : w5.cell? ⟨gb297, 2, none⟩ = some (.int .i64 a0_2) := (blk_cell BK297.out 2).trans rfl
          have hcz10_3 : w5.cell? ⟨gb297, 3, none⟩ = some (.slice A0_3 l0_3.length c0_3) := (blk_cell BK297.out 3).trans rfl
          have hfz10_0 := blk_frozen BK297.out 0
          have hfz10_1 := blk_frozen BK297.out 1
          have hfz10_2 := blk_frozen BK297.out 2
          have hfz10_3 := blk_frozen BK297.out 3
          have hcz11_0 : w5.cell? ⟨gb298, 0, none⟩ = some (.int .i64 a1_0) := (blk_cell BK298.out 0).trans rfl
          have hcz11_1 : w5.cell? ⟨gb298, 1, none⟩ = some (.int .i64 a1_1) := (blk_cell BK298.out 1).trans rfl
          have hcz11_2 : w5.cell? ⟨gb298, 2, none⟩ = some (.int .i64 a1_2) := (blk_cell BK298.out 2).trans rfl
          have hcz11_3 : w5.cell? ⟨gb298, 3, none⟩ = some (.slice A1_3 l1_3.length c1_3) := (blk_cell BK298.out 3).trans rfl
          have hfz11_0 := blk_frozen BK298.out 0
          have hfz11_1 := blk_frozen BK298.out 1
          have hfz11_2 := blk_frozen BK298.out 2
          have hfz11_3 := blk_frozen BK298.out 3
          go_wp2
          repeat (go_quiet (fail); try go_wp2)
          go_meet
          case rel => exact ⟨_, (((l0_3.length : Int) != (l1_3.length : Int))), (by first | rfl | (simp; done) | (simp [*]; done)), H', ⟨by first | omega | exact Nat.le_refl _⟩, ⟨by (with_reducible repeat (first | refine blk_drewN ?_ _ | refine blk_drew ?_ | refine blk_alloc ?_ _)); exact BK297.out⟩, ⟨by (with_reducible repeat (first | refine blk_drewN ?_ _ | refine blk_drew ?_ | refine blk_alloc ?_ _)); exact BK298.out⟩, ⟨by repeat (first | (with_reducible first | exact HB.out | apply below_alloc | apply pw_below_drewN | apply below_drew1 | refine below_set ?_ GE297.out | refine below_set ?_ GE298.out) | exact HB.out)⟩⟩
        · rw [if_neg c8] at H
          have c8b0 : (a0_2 == a1_2) = false := beq_eq_false_iff_ne.mpr c8
          have c8b1 : (a0_2 != a1_2) = true := bne_iff_ne.mpr c8
          have H' := Aside0.mk H
          clear H
          have hnb12 := NB297_298.out
          have hnc12 := NB298_297.out
          have hcz13_0 : w5.cell? ⟨gb297, 0, none⟩ = some (.int .i64 a0_0) := (blk_cell BK297.out 0).trans rfl
          have hcz13_1 : w5.cell? ⟨gb297, 1, none⟩ = some (.int .i64 a0_1) := (blk_cell BK297.out 1).trans rfl
          have hcz13_2 : w5.cell? ⟨gb297, 2, none⟩ = some (.int .i64 a0_2) := (blk_cell BK297.out 2).trans rfl
          have hcz13_3 : w5.cell? ⟨gb297, 3, none⟩ = some (.slice A0_3 l0_3.length c0_3) := (blk_cell BK297.out 3).trans rfl
          have hfz13_0 := blk_frozen BK297.out 0
          have hfz13_1 := blk_frozen BK297.out 1
          have hfz13_2 := blk_frozen BK297.out 2
          have hfz13_3 := blk_frozen BK297.out 3
          have hcz14_0 : w5.cell? ⟨gb298, 0, none⟩ = some (.int .i64 a1_0) := (blk_cell BK298.out 0).trans rfl
          have hcz14_1 : w5.cell? ⟨gb298, 1, none⟩ = some (.int .i64 a1_1) := (blk_cell BK298.out 1).trans rfl
          have hcz14_2 : w5.cell? ⟨gb298, 2, none⟩ = some (.int .i64 a1_2) := (blk_cell BK298.out 2).trans rfl
          have hcz14_3 : w5.cell? ⟨gb298, 3, none⟩ = some (.slice A1_3 l1_3.length c1_3) := (blk_cell BK298.out 3).trans rfl
          have hfz14_0 := blk_frozen BK298.out 0
          have hfz14_1 := blk_frozen BK298.out 1
          have hfz14_2 := blk_frozen BK298.out 2
          have hfz14_3 := blk_frozen BK298.out 3
          go_wp2
          repeat (go_quiet (fail); try go_wp2)
          go_meet
          case rel => exact ⟨_, (true), (by first | rfl | (simp; done) | (simp [*]; done)), H', ⟨by first | omega | exact Nat.le_refl _⟩, ⟨by (with_reducible repeat (first | refine blk_drewN ?_ _ | refine blk_drew ?_ | refine blk_alloc ?_ _)); exact BK297.out⟩, ⟨by (with_reducible repeat (first | refine blk_drewN ?_ _ | refine blk_drew ?_ | refine blk_alloc ?_ _)); exact BK298.out⟩, ⟨by repeat (first | (with_reducible first | exact HB.out | apply below_alloc | apply pw_below_drewN | apply below_drew1 | refine below_set ?_ GE297.out | refine below_set ?_ GE298.out) | exact HB.out)⟩⟩
      · rw [if_neg c7] at H
        have c7b0 : (a0_1 == a1_1) = false := beq_eq_false_iff_ne.mpr c7
        have c7b1 : (a0_1 != a1_1) = true := bne_iff_ne.mpr c7
        have H' := Aside0.mk H
        clear H
        have hnb15 := NB297_298.out
        have hnc15 := NB298_297.out
        have hcz16_0 : w5.cell? ⟨gb297, 0, none⟩ = some (.int .i64 a0_0) := (blk_cell BK297.out 0).trans rfl
        have hcz16_1 : w5.cell? ⟨gb297, 1, none⟩ = some (.int .i64 a0_1) := (blk_cell BK297.out 1).trans rfl
        have hcz16_2 : w5.cell? ⟨gb297, 2, none⟩ = some (.int .i64 a0_2) := (blk_cell BK297.out 2).trans rfl
        have hcz16_3 : w5.cell? ⟨gb297, 3, none⟩ = some (.slice A0_3 l0_3.length c0_3) := (blk_cell BK297.out 3).trans rfl
        have hfz16_0 := blk_frozen BK297.out 0
        have hfz16_1 := blk_frozen BK297.out 1
        have hfz16_2 := blk_frozen BK297.out 2
        have hfz16_3 := blk_frozen BK297.out 3
        have hcz17_0 : w5.cell? ⟨gb298, 0, none⟩ = some (.int .i64 a1_0) := (blk_cell BK298.out 0).trans rfl
        have hcz17_1 : w5.cell? ⟨gb298, 1, none⟩ = some (.int .i64 a1_1) := (blk_cell BK298.out 1).trans rfl
        have hcz17_2 : w5.cell? ⟨gb298, 2, none⟩ = some (.int .i64 a1_2) := (blk_cell BK298.out 2).trans rfl
        have hcz17_3 : w5.cell? ⟨gb298, 3, none⟩ = some (.slice A1_3 l1_3.length c1_3) := (blk_cell BK298.out 3).trans rfl
        have hfz17_0 := blk_frozen BK298.out 0
        have hfz17_1 := blk_frozen BK298.out 1
        have hfz17_2 := blk_frozen BK298.out 2
        have hfz17_3 := blk_frozen BK298.out 3
        go_wp2
        repeat (go_quiet (fail); try go_wp2)
        go_meet
        case rel => exact ⟨_, (true), (by first | rfl | (simp; done) | (simp [*]; done)), H', ⟨by first | omega | exact Nat.le_refl _⟩, ⟨by (with_reducible repeat (first | refine blk_drewN ?_ _ | refine blk_drew ?_ | refine blk_alloc ?_ _)); exact BK297.out⟩, ⟨by (with_reducible repeat (first | refine blk_drewN ?_ _ | refine blk_drew ?_ | refine blk_alloc ?_ _)); exact BK298.out⟩, ⟨by repeat (first | (with_reducible first | exact HB.out | apply below_alloc | apply pw_below_drewN | apply below_drew1 | refine below_set ?_ GE297.out | refine below_set ?_ GE298.out) | exact HB.out)⟩⟩
    · rw [if_neg c6] at H
      have c6b0 : (a0_0 == a1_0) = false := beq_eq_false_iff_ne.mpr c6
      have c6b1 : (a0_0 != a1_0) = true := bne_iff_ne.mpr c6
      (first | rw [c6b0] | (simp only [i64_w, i32_w]; rw [c6b0]) | skip)
      have H' := Aside0.mk H
      clear H
      have hnb18 := NB297_298.out
      have hnc18 := NB298_297.out
      have hcz19_0 : w5.cell? ⟨gb297, 0, none⟩ = some (.int .i64 a0_0) := (blk_cell BK297.out 0).trans rfl
      have hcz19_1 : w5.cell? ⟨gb297, 1, none⟩ = some (.int .i64 a0_1) := (blk_cell BK297.out 1).trans rfl
      have hcz19_2 : w5.cell? ⟨gb297, 2, none⟩ = some (.int .i64 a0_2) := (blk_cell BK297.out 2).trans rfl
      have hcz19_3 : w5.cell? ⟨gb297, 3, none⟩ = some (.slice A0_3 l0_3.length c0_3) := (blk_cell BK297.out 3).trans rfl
      have hfz19_0 := blk_frozen BK297.out 0
      have hfz19_1 := blk_frozen BK297.out 1
      have hfz19_2 := blk_frozen BK297.out 2
      have hfz19_3 := blk_frozen BK297.out 3
      have hcz20_0 : w5.cell? ⟨gb298, 0, none⟩ = some (.int .i64 a1_0) := (blk_cell BK298.out 0).trans rfl
      have hcz20_1 : w5.cell? ⟨gb298, 1, none⟩ = some (.int .i64 a1_1) := (blk_cell BK298.out 1).trans rfl
      have hcz20_2 : w5.cell? ⟨gb298, 2, none⟩ = some (.int .i64 a1_2) := (blk_cell BK298.out 2).trans rfl
      have hcz20_3 : w5.cell? ⟨gb298, 3, none⟩ = some (.slice A1_3 l1_3.length c1_3) := (blk_cell BK298.out 3).trans rfl
      have hfz20_0 := blk_frozen BK298.out 0
      have hfz20_1 := blk_frozen BK298.out 1
      have hfz20_2 := blk_frozen BK298.out 2
      have hfz20_3 := blk_frozen BK298.out 3
      go_wp2
      repeat (go_quiet (fail); try go_wp2)
      go_meet
      case rel => exact ⟨_, (true), (by first | rfl | (simp; done) | (simp [*]; done)), H', ⟨by first | omega | exact Nat.le_refl _⟩, ⟨by (with_reducible repeat (first | refine blk_drewN ?_ _ | refine blk_drew ?_ | refine blk_alloc ?_ _)); exact BK297.out⟩, ⟨by (with_reducible repeat (first | refine blk_drewN ?_ _ | refine blk_drew ?_ | refine blk_alloc ?_ _)); exact BK298.out⟩, ⟨by repeat (first | (with_reducible first | exact HB.out | apply below_alloc | apply pw_below_drewN | apply below_drew1 | refine below_set ?_ GE297.out | refine below_set ?_ GE298.out) | exact HB.out)⟩⟩
  case rest =>
    clear HC3
    try clear c1
    try clear p2
    try clear c6
    try clear c6b0
    try clear c6b1
    try clear c7
    try clear c7b0
    try clear c7b1
    try clear c8
    try clear c8b0
    try clear c8b1
    try clear c9
    try clear c12
    try clear c15
    try clear c18
    try clear c19
    try clear hcz10_0
    try clear hcz10_1
    try clear hcz10_2
    try clear hcz10_3
    try clear hcz11_0
    try clear hcz11_1
    try clear hcz11_2
    try clear hcz11_3
    try clear hcz13_0
    try clear hcz13_1
    try clear hcz13_2
    try clear hcz13_3
    try clear hcz14_0
    try clear hcz14_1
    try clear hcz14_2
    try clear hcz14_3
    try clear hcz16_0
    try clear hcz16_1
    try clear hcz16_2
    try clear hcz16_3
    try clear hcz17_0
    try clear hcz17_1
    try clear hcz17_2
    try clear hcz17_3
    try clear hcz19_0
    try clear hcz19_1
    try clear hcz19_2
    try clear hcz19_3
    try clear hcz20_0
    try clear hcz20_1
    try clear hcz20_2
    try clear hcz20_3
    try clear hfz10_0
    try clear hfz10_1
    try clear hfz10_2
    try clear hfz10_3
    try clear hfz11_0
    try clear hfz11_1
    try clear hfz11_2
    try clear hfz11_3
    try clear hfz13_0
    try clear hfz13_1
    try clear hfz13_2
    try clear hfz13_3
    try clear hfz14_0
    try clear hfz14_1
    try clear hfz14_2
    try clear hfz14_3
    try clear hfz16_0
    try clear hfz16_1
    try clear hfz16_2
    try clear hfz16_3
    try clear hfz17_0
    try clear hfz17_1
    try clear hfz17_2
    try clear hfz17_3
    try clear hfz19_0
    try clear hfz19_1
    try clear hfz19_2
    try clear hfz19_3
    try clear hfz20_0
    try clear hfz20_1
    try clear hfz20_2
    try clear hfz20_3
    obtain ⟨kq, x34_2, rfl, HA, HJ2, BK297, BK298, HB⟩ := hcut
    cases kq with
    | zero => exact absurd HA.out (by simp [alibiref05_Same.j0])
    | succ kj2 =>
      have H := HA.out
      clear HA
      simp only [alibiref05_Same.j0] at H
      by_cases c21 : x34_2 = true
      · subst c21
        have H1 : (some false) = some r := by rw [if_pos rfl] at H; exact H
        clear H
        have H := H1
        clear H1
        obtain rfl := Option.some.inj H
        go_wp2
        repeat (go_quiet (fail); try go_wp2)
        go_ret
        exact ⟨by first | rfl | (simp [errW_none, errW_some] <;> rfl) | (simp [*, errW_none, errW_some] <;> rfl), by repeat (first | (with_reducible first | exact HB.out | apply below_alloc | apply pw_below_drewN | apply below_drew1 | refine below_set ?_ GE297.out | refine below_set ?_ GE298.out) | exact HB.out)⟩
      · replace c21 := Bool.eq_false_iff.mpr c21
        subst c21
        have H1 : (alibiref05_Same.l0 kj2 0 a0_0 a0_1 a0_2 l0_3 a1_0 a1_1 a1_2 l1_3) = some r := by rw [if_neg (show ¬ (false = true) by decide)] at H; exact H
        clear H
        have H := H1
        clear H1
        have H' := Aside0.mk H
        clear H
        go_wp2
        repeat (go_quiet (fail); try go_wp2)
        go_loopg [5] kj2 (fun kq v5 w' => ∃ (x5_2 : Int), v5 = .int .i64 x5_2 ∧ Aside0 (alibiref05_Same.l0 kq x5_2 a0_0 a0_1 a0_2 l0_3 a1_0 a1_1 a1_2 l1_3 = some r) ∧ Aside0 (kq ≤ kj2) ∧ Aside0 (w'.heap[gb297]? = some (.cells #[.int .i64 a0_0, .int .i64 a0_1, .int .i64 a0_2, (.slice A0_3 l0_3.length c0_3)] 24 (0, 0))) ∧ Aside0 (w'.heap[gb298]? = some (.cells #[.int .i64 a1_0, .int .i64 a1_1, .int .i64 a1_2, (.slice A1_3 l1_3.length c1_3)] 24 (0, 0))) ∧ Aside0 (Below w.heap.size w w'))
        case atStart => exact ⟨(0), (by first | rfl | (simp; done) | (simp [*]; done)), H', ⟨Nat.le_refl _⟩, ⟨by (with_reducible repeat (first | refine blk_drewN ?_ _ | refine blk_drew ?_ | refine blk_alloc ?_ _)); exact BK297.out⟩, ⟨by (with_reducible repeat (first | refine blk_drewN ?_ _ | refine blk_drew ?_ | refine blk_alloc ?_ _)); exact BK298.out⟩, ⟨by repeat (first | (with_reducible first | exact HB.out | apply below_alloc | apply pw_below_drewN | apply below_drew1 | refine below_set ?_ GE297.out | refine below_set ?_ GE298.out) | exact HB.out)⟩⟩
        case round =>
          clear H'
          try clear c1
          try clear c2
          try clear p2
          try clear c6
          try clear c6b0
          try clear c6b1
          try clear c7
          try clear c7b0
          try clear c7b1
          try clear c8
          try clear c8b0
          try clear c8b1
          try clear c9
          try clear c12
          try clear c15
          try clear c18
          try clear c19
          try clear c21
          try clear hcz10_0
          try clear hcz10_1
          try clear hcz10_2
          try clear hcz10_3
          try clear hcz11_0
          try clear hcz11_1
          try clear hcz11_2
          try clear hcz11_3
          try clear hcz13_0
          try clear hcz13_1
          try clear hcz13_2
          try clear hcz13_3
          try clear hcz14_0
          try clear hcz14_1
          try clear hcz14_2
          try clear hcz14_3
          try clear hcz16_0
          try clear hcz16_1
          try clear hcz16_2
          try clear hcz16_3
          try clear hcz17_0
          try clear hcz17_1
          try clear hcz17_2
          try clear hcz17_3
          try clear hcz19_0
          try clear hcz19_1
          try clear hcz19_2
          try clear hcz19_3
          try clear hcz20_0
          try clear hcz20_1
          try clear hcz20_2
          try clear hcz20_3
          try clear hfz10_0
          try clear hfz10_1
          try clear hfz10_2
          try clear hfz10_3
          try clear hfz11_0
          try clear hfz11_1
          try clear hfz11_2
          try clear hfz11_3
          try clear hfz13_0
          try clear hfz13_1
          try clear hfz13_2
          try clear hfz13_3
          try clear hfz14_0
          try clear hfz14_1
          try clear hfz14_2
          try clear hfz14_3
          try clear hfz16_0
          try clear hfz16_1
          try clear hfz16_2
          try clear hfz16_3
          try clear hfz17_0
          try clear hfz17_1
          try clear hfz17_2
          try clear hfz17_3
          try clear hfz19_0
          try clear hfz19_1
          try clear hfz19_2
          try clear hfz19_3
          try clear hfz20_0
          try clear hfz20_1
          try clear hfz20_2
          try clear hfz20_3
          try clear p2
          obtain ⟨x5_2, rfl, HA, HK2, BK297, BK298, HB⟩ := hrel
          cases gk with
          | zero => exact absurd HA.out (by simp [alibiref05_Same.l0])
          | succ k2 =>
            have H := HA.out
            clear HA
            simp only [alibiref05_Same.l0] at H
            by_cases c22 : x5_2 < (l0_3.length : Int)
            · rw [if_pos c22] at H
              have c22b0 : decide (x5_2 < (l0_3.length : Int)) = true := decide_eq_true c22
              clear c22
              by_cases c23 : 0 ≤ x5_2
              · rw [if_pos c23] at H
                have c23b0 : decide (0 ≤ x5_2) = true := decide_eq_true c23
                clear c23
                by_cases c24 : x5_2 < (l1_3.length : Int)
                · rw [if_pos c24] at H
                  have c24b0 : decide (x5_2 < (l1_3.length : Int)) = true := decide_eq_true c24
                  clear c24
                  by_cases c25 : ((rd_L2 l0_3 x5_2).length : Int) = ((rd_L2 l1_3 x5_2).length : Int)
                  · rw [if_pos c25] at H
                    have c25b0 : (((rd_L2 l0_3 x5_2).length : Int) == ((rd_L2 l1_3 x5_2).length : Int)) = true := beq_iff_eq.mpr c25
                    have c25b1 : (((rd_L2 l0_3 x5_2).length : Int) != ((rd_L2 l1_3 x5_2).length : Int)) = false := bne_eq_false_iff_eq.mpr c25
                    have c25b2 : ((rd_L2 l0_3 x5_2).length == (rd_L2 l1_3 x5_2).length) = true := by first | simpa using c25 | (simp at c25 ⊢; omega)
                    clear c25
                    have H' := Aside0.mk H
                    clear H
                    have hnb26 := NB297_298.out
                    have hnc26 := NB298_297.out
                    have hcz27_0 : wr.cell? ⟨gb297, 0, none⟩ = some (.int .i64 a0_0) := (blk_cell BK297.out 0).trans rfl
                    have hcz27_1 : wr.cell? ⟨gb297, 1, none⟩ = some (.int .i64 a0_1) := (blk_cell BK297.out 1).trans rfl
                    have hcz27_2 : wr.cell? ⟨gb297, 2, none⟩ = some (.int .i64 a0_2) := (blk_cell BK297.out 2).trans rfl
                    have hcz27_3 : wr.cell? ⟨gb297, 3, none⟩ = some (.slice A0_3 l0_3.length c0_3) := (blk_cell BK297.out 3).trans rfl
                    have hfz27_0 := blk_frozen BK297.out 0
                    have hfz27_1 := blk_frozen BK297.out 1
                    have hfz27_2 := blk_frozen BK297.out 2
                    have hfz27_3 := blk_frozen BK297.out 3
                    have p299 : 0 ≤ (x5_2 : Int) := of_decide_eq_true (by first | (with_reducible assumption) | assumption)
                    have q299 : x5_2 < (l0_3.length : Int) := of_decide_eq_true (by first | (with_reducible assumption) | assumption)
                    obtain ⟨ad299, A299_0, c299_0, e299, hx299_0, hl299_0, hi299_0⟩ := at_L2 HR0_3.out x5_2 p299 q299
                    cases e299
                    try replace hx299_0 := (HB.out.cell (World.block_lt_of_cell? w _ hx299_0)).trans hx299_0
                    have HR299_0 := Aside0.mk hi299_0
                    have HC299_0 := Aside0.mk hl299_0
                    clear hi299_0 hl299_0
                    replace p299 := eq_true p299
                    replace q299 := eq_true q299
                    have hcz28_0 : wr.cell? ⟨gb298, 0, none⟩ = some (.int .i64 a1_0) := (blk_cell BK298.out 0).trans rfl
                    have hcz28_1 : wr.cell? ⟨gb298, 1, none⟩ = some (.int .i64 a1_1) := (blk_cell BK298.out 1).trans rfl
                    have hcz28_2 : wr.cell? ⟨gb298, 2, none⟩ = some (.int .i64 a1_2) := (blk_cell BK298.out 2).trans rfl
                    have hcz28_3 : wr.cell? ⟨gb298, 3, none⟩ = some (.slice A1_3 l1_3.length c1_3) := (blk_cell BK298.out 3).trans rfl
                    have hfz28_0 := blk_frozen BK298.out 0
                    have hfz28_1 := blk_frozen BK298.out 1
                    have hfz28_2 := blk_frozen BK298.out 2
                    have hfz28_3 := blk_frozen BK298.out 3
                    have p300 : 0 ≤ (x5_2 : Int) := of_decide_eq_true (by first | (with_reducible assumption) | assumption)
                    have q300 : x5_2 < (l1_3.length : Int) := of_decide_eq_true (by first | (with_reducible assumption) | assumption)
                    obtain ⟨ad300, A300_0, c300_0, e300, hx300_0, hl300_0, hi300_0⟩ := at_L2 HR1_3.out x5_2 p300 q300
                    cases e300
                    try replace hx300_0 := (HB.out.cell (World.block_lt_of_cell? w _ hx300_0)).trans hx300_0
                    have HR300_0 := Aside0.mk hi300_0
                    have HC300_0 := Aside0.mk hl300_0
                    clear hi300_0 hl300_0
                    replace p300 := eq_true p300
                    replace q300 := eq_true q300
                    go_wp2
                    repeat (go_quiet (fail); try go_wp2)
                    go_loopg [6] k2 (fun kq v6 w' => ∃ (x6_3 : Int), v6 = .int .i64 x6_3 ∧ Aside0 (alibiref05_Same.l1 kq x5_2 x6_3 a0_0 a0_1 a0_2 l0_3 a1_0 a1_1 a1_2 l1_3 = some r) ∧ Aside0 (kq ≤ k2) ∧ Aside0 (w'.heap[gb297]? = some (.cells #[.int .i64 a0_0, .int .i64 a0_1, .int .i64 a0_2, (.slice (some ad299) l0_3.length c0_3)] 24 (0, 0))) ∧ Aside0 (w'.heap[gb298]? = some (.cells #[.int .i64 a1_0, .int .i64 a1_1, .int .i64 a1_2, (.slice (some ad300) l1_3.length c1_3)] 24 (0, 0))) ∧ Aside0 (Below w.heap.size w w'))
                    case atStart => exact ⟨(0), (by first | rfl | (simp; done) | (simp [*]; done)), H', ⟨Nat.le_refl _⟩, ⟨by (with_reducible repeat (first | refine blk_drewN ?_ _ | refine blk_drew ?_ | refine blk_alloc ?_ _)); exact BK297.out⟩, ⟨by (with_reducible repeat (first | refine blk_drewN ?_ _ | refine blk_drew ?_ | refine blk_alloc ?_ _)); exact BK298.out⟩, ⟨by repeat (first | (with_reducible first | exact HB.out | apply below_alloc | apply pw_below_drewN | apply below_drew1 | refine below_set ?_ GE297.out | refine below_set ?_ GE298.out) | exact HB.out)⟩⟩
                    case round =>
                      clear H'
                      try clear c1
                      try clear c2
                      try clear p2
                      try clear q2
                      try clear hx2
                      try clear c3
                      try clear p3
                      try clear q3
                      try clear hx3
                      try clear c6
                      try clear c6b0
                      try clear c6b1
                      try clear c7
                      try clear c7b0
                      try clear c7b1
                      try clear c8
                      try clear c8b0
                      try clear c8b1
                      try clear c9
                      try clear c12
                      try clear c15
                      try clear c18
                      try clear c19
                      try clear c21
                      try clear c22
                      try clear c22b0
                      try clear c23
                      try clear c23b0
                      try clear c24
                      try clear c24b0
                      try clear c25
                      try clear c25b0
                      try clear c25b1
                      try clear c25b2
                      try clear c26
                      try clear hcz10_0
                      try clear hcz10_1
                      try clear hcz10_2
                      try clear hcz10_3
                      try clear hcz11_0
                      try clear hcz11_1
                      try clear hcz11_2
                      try clear hcz11_3
                      try clear hcz13_0
                      try clear hcz13_1
                      try clear hcz13_2
                      try clear hcz13_3
                      try clear hcz14_0
                      try clear hcz14_1
                      try clear hcz14_2
                      try clear hcz14_3
                      try clear hcz16_0
                      try clear hcz16_1
                      try clear hcz16_2
                      try clear hcz16_3
                      try clear hcz17_0
                      try clear hcz17_1
                      try clear hcz17_2
                      try clear hcz17_3
                      try clear hcz19_0
                      try clear hcz19_1
                      try clear hcz19_2
                      try clear hcz19_3
                      try clear hcz20_0
                      try clear hcz20_1
                      try clear hcz20_2
                      try clear hcz20_3
                      try clear hcz27_0
                      try clear hcz27_1
                      try clear hcz27_2
                      try clear hcz27_3
                      try clear hcz28_0
                      try clear hcz28_1
                      try clear hcz28_2
                      try clear hcz28_3
                      try clear hfz10_0
                      try clear hfz10_1
                      try clear hfz10_2
                      try clear hfz10_3
                      try clear hfz11_0
                      try clear hfz11_1
                      try clear hfz11_2
                      try clear hfz11_3
                      try clear hfz13_0
                      try clear hfz13_1
                      try clear hfz13_2
                      try clear hfz13_3
                      try clear hfz14_0
                      try clear hfz14_1
                      try clear hfz14_2
                      try clear hfz14_3
                      try clear hfz16_0
                      try clear hfz16_1
                      try clear hfz16_2
                      try clear hfz16_3
                      try clear hfz17_0
                      try clear hfz17_1
                      try clear hfz17_2
                      try clear hfz17_3
                      try clear hfz19_0
                      try clear hfz19_1
                      try clear hfz19_2
                      try clear hfz19_3
                      try clear hfz20_0
                      try clear hfz20_1
                      try clear hfz20_2
                      try clear hfz20_3
                      try clear hfz27_0
                      try clear hfz27_1
                      try clear hfz27_2
                      try clear hfz27_3
                      try clear hfz28_0
                      try clear hfz28_1
                      try clear hfz28_2
                      try clear hfz28_3
                      try clear hx299_0
                      try clear hx300_0
                      try clear p2
                      try clear p299
                      try clear p300
                      try clear q299
                      try clear q300
                      obtain ⟨x6_3, rfl, HA, HK3, BK297, BK298, HB⟩ := hrel
                      cases gk with
                      | zero => exact absurd HA.out (by simp [alibiref05_Same.l1])
                      | succ k3 =>
                        have H := HA.out
                        clear HA
                        simp only [alibiref05_Same.l1] at H
                        by_cases c29 : 0 ≤ x5_2
                        · rw [if_pos c29] at H
                          have c29b0 : decide (0 ≤ x5_2) = true := decide_eq_true c29
                          clear c29
                          by_cases c30 : x5_2 < (l0_3.length : Int)
                          · rw [if_pos c30] at H
                            have c30b0 : decide (x5_2 < (l0_3.length : Int)) = true := decide_eq_true c30
                            clear c30
                            by_cases c31 : x6_3 < ((rd_L2 l0_3 x5_2).length : Int)
                            · rw [if_pos c31] at H
                              have c31b0 : decide (x6_3 < ((rd_L2 l0_3 x5_2).length : Int)) = true := decide_eq_true c31
                              clear c31
                              by_cases c32 : 0 ≤ x6_3
                              · rw [if_pos c32] at H
                                have c32b0 : decide (0 ≤ x6_3) = true := decide_eq_true c32
                                clear c32
                                by_cases c33 : x5_2 < (l1_3.length : Int)
                                · rw [if_pos c33] at H
                                  have c33b0 : decide (x5_2 < (l1_3.length : Int)) = true := decide_eq_true c33
                                  clear c33
                                  by_cases c34 : x6_3 < ((rd_L2 l1_3 x5_2).length : Int)
                                  · rw [if_pos c34] at H
                                    have c34b0 : decide (x6_3 < ((rd_L2 l1_3 x5_2).length : Int)) = true := decide_eq_true c34
                                    clear c34
                                    by_cases c35 : (!(((rd_T35 (rd_L2 l0_3 x5_2) x6_3).f0) == ((rd_T35 (rd_L2 l1_3 x5_2) x6_3).f0)) || (!(((rd_T35 (rd_L2 l0_3 x5_2) x6_3).f1) == ((rd_T35 (rd_L2 l1_3 x5_2) x6_3).f1)) || (!(((rd_T35 (rd_L2 l0_3 x5_2) x6_3).f2) == ((rd_T35 (rd_L2 l1_3 x5_2) x6_3).f2)) || (!(((rd_T35 (rd_L2 l0_3 x5_2) x6_3).f3) == ((rd_T35 (rd_L2 l1_3 x5_2) x6_3).f3)))))) = true
                                    · rw [if_pos c35] at H
                                      have c35b0 : (!(((rd_T35 (rd_L2 l0_3 x5_2) x6_3).f0) == ((rd_T35 (rd_L2 l1_3 x5_2) x6_3).f0)) || (!(((rd_T35 (rd_L2 l0_3 x5_2) x6_3).f1) == ((rd_T35 (rd_L2 l1_3 x5_2) x6_3).f1)) || (!(((rd_T35 (rd_L2 l0_3 x5_2) x6_3).f2) == ((rd_T35 (rd_L2 l1_3 x5_2) x6_3).f2)) || (!(((rd_T35 (rd_L2 l0_3 x5_2) x6_3).f3) == ((rd_T35 (rd_L2 l1_3 x5_2) x6_3).f3)))))) = true := c35
                                      clear c35
                                      obtain rfl := Option.some.inj H
                                      have hnb36 := NB297_298.out
                                      have hnc36 := NB298_297.out
                                      have hcz37_0 : wr.cell? ⟨gb297, 0, none⟩ = some (.int .i64 a0_0) := (blk_cell BK297.out 0).trans rfl
                                      have hcz37_1 : wr.cell? ⟨gb297, 1, none⟩ = some (.int .i64 a0_1) := (blk_cell BK297.out 1).trans rfl
                                      have hcz37_2 : wr.cell? ⟨gb297, 2, none⟩ = some (.int .i64 a0_2) := (blk_cell BK297.out 2).trans rfl
                                      have hcz37_3 : wr.cell? ⟨gb297, 3, none⟩ = some (.slice (some ad299) l0_3.length c0_3) := (blk_cell BK297.out 3).trans rfl
                                      have hfz37_0 := blk_frozen BK297.out 0
                                      have hfz37_1 := blk_frozen BK297.out 1
                                      have hfz37_2 := blk_frozen BK297.out 2
                                      have hfz37_3 := blk_frozen BK297.out 3
                                      have p301 : 0 ≤ (x5_2 : Int) := of_decide_eq_true (by first | (with_reducible assumption) | assumption)
                                      have q301 : x5_2 < (l0_3.length : Int) := of_decide_eq_true (by first | (with_reducible assumption) | assumption)
                                      obtain ⟨ad301, A301_0, c301_0, e301, hx301_0, hl301_0, hi301_0⟩ := at_L2 HR0_3.out x5_2 p301 q301
                                      obtain rfl : ad299 = ad301 := (by injection e301)
                                      try replace hx301_0 := (HB.out.cell (World.block_lt_of_cell? w _ hx301_0)).trans hx301_0
                                      have HR301_0 := Aside0.mk hi301_0
                                      have HC301_0 := Aside0.mk hl301_0
                                      clear hi301_0 hl301_0
                                      replace p301 := eq_true p301
                                      replace q301 := eq_true q301
                                      have p302 : 0 ≤ (x5_2 : Int) := of_decide_eq_true (by first | (with_reducible assumption) | assumption)
                                      have q302 : x5_2 < (l0_3.length : Int) := of_decide_eq_true (by first | (with_reducible assumption) | assumption)
                                      obtain ⟨ad302, A302_0, c302_0, e302, hx302_0, hl302_0, hi302_0⟩ := at_L2 HR0_3.out x5_2 p302 q302
                                      obtain rfl : ad299 = ad302 := (by injection e302)
                                      try replace hx302_0 := (HB.out.cell (World.block_lt_of_cell? w _ hx302_0)).trans hx302_0
                                      have HR302_0 := Aside0.mk hi302_0
                                      have HC302_0 := Aside0.mk hl302_0
                                      clear hi302_0 hl302_0
                                      replace p302 := eq_true p302
                                      replace q302 := eq_true q302
                                      have ea_ := Option.some.inj (hx301_0.symm.trans hx302_0)
                                      injection ea_ with ea_ en_ ec_
                                      subst ea_
                                      subst ec_
                                      clear en_
                                      have p303 : 0 ≤ (x6_3 : Int) := of_decide_eq_true (by first | (with_reducible assumption) | assumption)
                                      have q303 : x6_3 < ((rd_L2 l0_3 x5_2).length : Int) := of_decide_eq_true (by first | (with_reducible assumption) | assumption)
                                      obtain ⟨ad303, e303, hx303_0, hx303_1, hx303_2, hx303_3⟩ := at_T35 HR302_0.out x6_3 p303 q303
                                      cases e303
                                      try replace hx303_0 := (HB.out.cell (World.block_lt_of_cell? w _ hx303_0)).trans hx303_0
                                      try replace hx303_1 := (HB.out.cell (World.block_lt_of_cell? w _ hx303_1)).trans hx303_1
                                      try replace hx303_2 := (HB.out.cell (World.block_lt_of_cell? w _ hx303_2)).trans hx303_2
                                      try replace hx303_3 := (HB.out.cell (World.block_lt_of_cell? w _ hx303_3)).trans hx303_3
                                      replace p303 := eq_true p303
                                      replace q303 := eq_true q303
                                      have hcz38_0 : wr.cell? ⟨gb298, 0, none⟩ = some (.int .i64 a1_0) := (blk_cell BK298.out 0).trans rfl
                                      have hcz38_1 : wr.cell? ⟨gb298, 1, none⟩ = some (.int .i64 a1_1) := (blk_cell BK298.out 1).trans rfl
                                      have hcz38_2 : wr.cell? ⟨gb298, 2, none⟩ = some (.int .i64 a1_2) := (blk_cell BK298.out 2).trans rfl
                                      have hcz38_3 : wr.cell? ⟨gb298, 3, none⟩ = some (.slice (some ad300) l1_3.length c1_3) := (blk_cell BK298.out 3).trans rfl
                                      have hfz38_0 := blk_frozen BK298.out 0
                                      have hfz38_1 := blk_frozen BK298.out 1
                                      have hfz38_2 := blk_frozen BK298.out 2
                                      have hfz38_3 := blk_frozen BK298.out 3
                                      have p304 : 0 ≤ (x5_2 : Int) := of_decide_eq_true (by first | (with_reducible assumption) | assumption)
                                      have q304 : x5_2 < (l1_3.length : Int) := of_decide_eq_true (by first | (with_reducible assumption) | assumption)
                                      obtain ⟨ad304, A304_0, c304_0, e304, hx304_0, hl304_0, hi304_0⟩ := at_L2 HR1_3.out x5_2 p304 q304
                                      obtain rfl : ad300 = ad304 := (by injection e304)
                                      try replace hx304_0 := (HB.out.cell (World.block_lt_of_cell? w _ hx304_0)).trans hx304_0
                                      have HR304_0 := Aside0.mk hi304_0
                                      have HC304_0 := Aside0.mk hl304_0
                                      clear hi304_0 hl304_0
                                      replace p304 := eq_true p304
                                      replace q304 := eq_true q304
                                      have p305 : 0 ≤ (x6_3 : Int) := of_decide_eq_true (by first | (with_reducible assumption) | assumption)
                                      have q305 : x6_3 < ((rd_L2 l1_3 x5_2).length : Int) := of_decide_eq_true (by first | (with_reducible assumption) | assumption)
                                      obtain ⟨ad305, e305, hx305_0, hx305_1, hx305_2, hx305_3⟩ := at_T35 HR304_0.out x6_3 p305 q305
                                      cases e305
                                      try replace hx305_0 := (HB.out.cell (World.block_lt_of_cell? w _ hx305_0)).trans hx305_0
                                      try replace hx305_1 := (HB.out.cell (World.block_lt_of_cell? w _ hx305_1)).trans hx305_1
                                      try replace hx305_2 := (HB.out.cell (World.block_lt_of_cell? w _ hx305_2)).trans hx305_2
                                      try replace hx305_3 := (HB.out.cell (World.block_lt_of_cell? w _ hx305_3)).trans hx305_3
                                      replace p305 := eq_true p305
                                      replace q305 := eq_true q305
                                      go_wp2
                                      repeat (go_quiet (fail); try go_wp2)
                                      go_ret
                                      exact ⟨by first | rfl | (simp [errW_none, errW_some] <;> rfl) | (simp [*, errW_none, errW_some] <;> rfl), by repeat (first | (with_reducible first | exact HB.out | apply below_alloc | apply pw_below_drewN | apply below_drew1 | refine below_set ?_ GE297.out | refine below_set ?_ GE298.out) | exact HB.out)⟩
                                    · rw [if_neg c35] at H
                                      have c35b0 : (!(((rd_T35 (rd_L2 l0_3 x5_2) x6_3).f0) == ((rd_T35 (rd_L2 l1_3 x5_2) x6_3).f0)) || (!(((rd_T35 (rd_L2 l0_3 x5_2) x6_3).f1) == ((rd_T35 (rd_L2 l1_3 x5_2) x6_3).f1)) || (!(((rd_T35 (rd_L2 l0_3 x5_2) x6_3).f2) == ((rd_T35 (rd_L2 l1_3 x5_2) x6_3).f2)) || (!(((rd_T35 (rd_L2 l0_3 x5_2) x6_3).f3) == ((rd_T35 (rd_L2 l1_3 x5_2) x6_3).f3)))))) = false := by simpa using c35
                                      clear c35
                                      have H' := Aside0.mk H
                                      clear H
                                      have hnb39 := NB297_298.out
                                      have hnc39 := NB298_297.out
                                      have hcz40_0 : wr.cell? ⟨gb297, 0, none⟩ = some (.int .i64 a0_0) := (blk_cell BK297.out 0).trans rfl
                                      have hcz40_1 : wr.cell? ⟨gb297, 1, none⟩ = some (.int .i64 a0_1) := (blk_cell BK297.out 1).trans rfl
                                      have hcz40_2 : wr.cell? ⟨gb297, 2, none⟩ = some (.int .i64 a0_2) := (blk_cell BK297.out 2).trans rfl
                                      have hcz40_3 : wr.cell? ⟨gb297, 3, none⟩ = some (.slice (some ad299) l0_3.length c0_3) := (blk_cell BK297.out 3).trans rfl
                                      have hfz40_0 := blk_frozen BK297.out 0
                                      have hfz40_1 := blk_frozen BK297.out 1
                                      have hfz40_2 := blk_frozen BK297.out 2
                                      have hfz40_3 := blk_frozen BK297.out 3
                                      have p301 : 0 ≤ (x5_2 : Int) := of_decide_eq_true (by first | (with_reducible assumption) | assumption)
                                      have q301 : x5_2 < (l0_3.length : Int) := of_decide_eq_true (by first | (with_reducible assumption) | assumption)
                                      obtain ⟨ad301, A301_0, c301_0, e301, hx301_0, hl301_0, hi301_0⟩ := at_L2 HR0_3.out x5_2 p301 q301
                                      obtain rfl : ad299 = ad301 := (by injection e301)
                                      try replace hx301_0 := (HB.out.cell (World.block_lt_of_cell? w _ hx301_0)).trans hx301_0
                                      have HR301_0 := Aside0.mk hi301_0
                                      have HC301_0 := Aside0.mk hl301_0
                                      clear hi301_0 hl301_0
                                      replace p301 := eq_true p301
                                      replace q301 := eq_true q301
                                      have p302 : 0 ≤ (x5_2 : Int) := of_decide_eq_true (by first | (with_reducible assumption) | assumption)
                                      have q302 : x5_2 < (l0_3.length : Int) := of_decide_eq_true (by first | (with_reducible assumption) | assumption)
                                      obtain ⟨ad302, A302_0, c302_0, e302, hx302_0, hl302_0, hi302_0⟩ := at_L2 HR0_3.out x5_2 p302 q302
                                      obtain rfl : ad299 = ad302 := (by injection e302)
                                      try replace hx302_0 := (HB.out.cell (World.block_lt_of_cell? w _ hx302_0)).trans hx302_0
                                      have HR302_0 := Aside0.mk hi302_0
                                      have HC302_0 := Aside0.mk hl302_0
                                      clear hi302_0 hl302_0
                                      replace p302 := eq_true p302
                                      replace q302 := eq_true q302
                                      have ea_ := Option.some.inj (hx301_0.symm.trans hx302_0)
                                      injection ea_ with ea_ en_ ec_
                                      subst ea_
                                      subst ec_
                                      clear en_
                                      have p303 : 0 ≤ (x6_3 : Int) := of_decide_eq_true (by first | (with_reducible assumption) | assumption)
                                      have q303 : x6_3 < ((rd_L2 l0_3 x5_2).length : Int) := of_decide_eq_true (by first | (with_reducible assumption) | assumption)
                                      obtain ⟨ad303, e303, hx303_0, hx303_1, hx303_2, hx303_3⟩ := at_T35 HR302_0.out x6_3 p303 q303
                                      cases e303
                                      try replace hx303_0 := (HB.out.cell (World.block_lt_of_cell? w _ hx303_0)).trans hx303_0
                                      try replace hx303_1 := (HB.out.cell (World.block_lt_of_cell? w _ hx303_1)).trans hx303_1
                                      try replace hx303_2 := (HB.out.cell (World.block_lt_of_cell? w _ hx303_2)).trans hx303_2
                                      try replace hx303_3 := (HB.out.cell (World.block_lt_of_cell? w _ hx303_3)).trans hx303_3
                                      replace p303 := eq_true p303
                                      replace q303 := eq_true q303
                                      have hcz41_0 : wr.cell? ⟨gb298, 0, none⟩ = some (.int .i64 a1_0) := (blk_cell BK298.out 0).trans rfl
                                      have hcz41_1 : wr.cell? ⟨gb298, 1, none⟩ = some (.int .i64 a1_1) := (blk_cell BK298.out 1).trans rfl
                                      have hcz41_2 : wr.cell? ⟨gb298, 2, none⟩ = some (.int .i64 a1_2) := (blk_cell BK298.out 2).trans rfl
                                      have hcz41_3 : wr.cell? ⟨gb298, 3, none⟩ = some (.slice (some ad300) l1_3.length c1_3) := (blk_cell BK298.out 3).trans rfl
                                      have hfz41_0 := blk_frozen BK298.out 0
                                      have hfz41_1 := blk_frozen BK298.out 1
                                      have hfz41_2 := blk_frozen BK298.out 2
                                      have hfz41_3 := blk_frozen BK298.out 3
                                      have p304 : 0 ≤ (x5_2 : Int) := of_decide_eq_true (by first | (with_reducible assumption) | assumption)
                                      have q304 : x5_2 < (l1_3.length : Int) := of_decide_eq_true (by first | (with_reducible assumption) | assumption)
                                      obtain ⟨ad304, A304_0, c304_0, e304, hx304_0, hl304_0, hi304_0⟩ := at_L2 HR1_3.out x5_2 p304 q304
                                      obtain rfl : ad300 = ad304 := (by injection e304)
                                      try replace hx304_0 := (HB.out.cell (World.block_lt_of_cell? w _ hx304_0)).trans hx304_0
                                      have HR304_0 := Aside0.mk hi304_0
                                      have HC304_0 := Aside0.mk hl304_0
                                      clear hi304_0 hl304_0
                                      replace p304 := eq_true p304
                                      replace q304 := eq_true q304
                                      have p305 : 0 ≤ (x6_3 : Int) := of_decide_eq_true (by first | (with_reducible assumption) | assumption)
                                      have q305 : x6_3 < ((rd_L2 l1_3 x5_2).length : Int) := of_decide_eq_true (by first | (with_reducible assumption) | assumption)
                                      obtain ⟨ad305, e305, hx305_0, hx305_1, hx305_2, hx305_3⟩ := at_T35 HR304_0.out x6_3 p305 q305
                                      cases e305
                                      try replace hx305_0 := (HB.out.cell (World.block_lt_of_cell? w _ hx305_0)).trans hx305_0
                                      try replace hx305_1 := (HB.out.cell (World.block_lt_of_cell? w _ hx305_1)).trans hx305_1
                                      try replace hx305_2 := (HB.out.cell (World.block_lt_of_cell? w _ hx305_2)).trans hx305_2
                                      try replace hx305_3 := (HB.out.cell (World.block_lt_of_cell? w _ hx305_3)).trans hx305_3
                                      replace p305 := eq_true p305
                                      replace q305 := eq_true q305
                                      go_wp2
                                      repeat (go_quiet (fail); try go_wp2)
                                      go_roundg k3
                                      case measure => have := HJ2.out; have := HK2.out; have := HK3.out; omega
                                      case rel => exact ⟨(wrap64 (x6_3 + 1)), (by first | rfl | (simp; done) | (simp [*]; done)), H', ⟨by have := HJ2.out; have := HK2.out; have := HK3.out; omega⟩, ⟨by (with_reducible repeat (first | refine blk_drewN ?_ _ | refine blk_drew ?_ | refine blk_alloc ?_ _)); exact BK297.out⟩, ⟨by (with_reducible repeat (first | refine blk_drewN ?_ _ | refine blk_drew ?_ | refine blk_alloc ?_ _)); exact BK298.out⟩, ⟨by repeat (first | (with_reducible first | exact HB.out | apply below_alloc | apply pw_below_drewN | apply below_drew1 | refine below_set ?_ GE297.out | refine below_set ?_ GE298.out) | exact HB.out)⟩⟩
                                  · rw [if_neg c34] at H
                                    exact absurd H (by simp)
                                · rw [if_neg c33] at H
                                  exact absurd H (by simp)
                              · rw [if_neg c32] at H
                                exact absurd H (by simp)
                            · rw [if_neg c31] at H
                              have c31b0 : decide (x6_3 < ((rd_L2 l0_3 x5_2).length : Int)) = false := decide_eq_false c31
                              clear c31
                              have H' := Aside0.mk H
                              clear H
                              have hnb42 := NB297_298.out
                              have hnc42 := NB298_297.out
                              have hcz43_0 : wr.cell? ⟨gb297, 0, none⟩ = some (.int .i64 a0_0) := (blk_cell BK297.out 0).trans rfl
                              have hcz43_1 : wr.cell? ⟨gb297, 1, none⟩ = some (.int .i64 a0_1) := (blk_cell BK297.out 1).trans rfl
                              have hcz43_2 : wr.cell? ⟨gb297, 2, none⟩ = some (.int .i64 a0_2) := (blk_cell BK297.out 2).trans rfl
                              have hcz43_3 : wr.cell? ⟨gb297, 3, none⟩ = some (.slice (some ad299) l0_3.length c0_3) := (blk_cell BK297.out 3).trans rfl
                              have hfz43_0 := blk_frozen BK297.out 0
                              have hfz43_1 := blk_frozen BK297.out 1
                              have hfz43_2 := blk_frozen BK297.out 2
                              have hfz43_3 := blk_frozen BK297.out 3
                              have p301 : 0 ≤ (x5_2 : Int) := of_decide_eq_true (by first | (with_reducible assumption) | assumption)
                              have q301 : x5_2 < (l0_3.length : Int) := of_decide_eq_true (by first | (with_reducible assumption) | assumption)
                              obtain ⟨ad301, A301_0, c301_0, e301, hx301_0, hl301_0, hi301_0⟩ := at_L2 HR0_3.out x5_2 p301 q301
                              obtain rfl : ad299 = ad301 := (by injection e301)
                              try replace hx301_0 := (HB.out.cell (World.block_lt_of_cell? w _ hx301_0)).trans hx301_0
                              have HR301_0 := Aside0.mk hi301_0
                              have HC301_0 := Aside0.mk hl301_0
                              clear hi301_0 hl301_0
                              replace p301 := eq_true p301
                              replace q301 := eq_true q301
                              go_wp2
                              repeat (go_quiet (fail); try go_wp2)
                              go_roundg k3
                              case measure => have := HJ2.out; have := HK2.out; have := HK3.out; omega
                              case rel => exact ⟨(wrap64 (x5_2 + 1)), (by first | rfl | (simp; done) | (simp [*]; done)), H', ⟨by have := HJ2.out; have := HK2.out; have := HK3.out; omega⟩, ⟨by (with_reducible repeat (first | refine blk_drewN ?_ _ | refine blk_drew ?_ | refine blk_alloc ?_ _)); exact BK297.out⟩, ⟨by (with_reducible repeat (first | refine blk_drewN ?_ _ | refine blk_drew ?_ | refine blk_alloc ?_ _)); exact BK298.out⟩, ⟨by repeat (first | (with_reducible first | exact HB.out | apply below_alloc | apply pw_below_drewN | apply below_drew1 | refine below_set ?_ GE297.out | refine below_set ?_ GE298.out) | exact HB.out)⟩⟩
                          · rw [if_neg c30] at H
                            exact absurd H (by simp)
                        · rw [if_neg c29] at H
                          exact absurd H (by simp)
                  · rw [if_neg c25] at H
                    have c25b0 : (((rd_L2 l0_3 x5_2).length : Int) == ((rd_L2 l1_3 x5_2).length : Int)) = false := beq_eq_false_iff_ne.mpr c25
                    have c25b1 : (((rd_L2 l0_3 x5_2).length : Int) != ((rd_L2 l1_3 x5_2).length : Int)) = true := bne_iff_ne.mpr c25
                    have c25b2 : ((rd_L2 l0_3 x5_2).length == (rd_L2 l1_3 x5_2).length) = false := by first | simpa using c25 | (simp at c25 ⊢; omega)
                    obtain rfl := Option.some.inj H
                    have hnb44 := NB297_298.out
                    have hnc44 := NB298_297.out
                    have hcz45_0 : wr.cell? ⟨gb297, 0, none⟩ = some (.int .i64 a0_0) := (blk_cell BK297.out 0).trans rfl
                    have hcz45_1 : wr.cell? ⟨gb297, 1, none⟩ = some (.int .i64 a0_1) := (blk_cell BK297.out 1).trans rfl
                    have hcz45_2 : wr.cell? ⟨gb297, 2, none⟩ = some (.int .i64 a0_2) := (blk_cell BK297.out 2).trans rfl
                    have hcz45_3 : wr.cell? ⟨gb297, 3, none⟩ = some (.slice A0_3 l0_3.length c0_3) := (blk_cell BK297.out 3).trans rfl
                    have hfz45_0 := blk_frozen BK297.out 0
                    have hfz45_1 := blk_frozen BK297.out 1
                    have hfz45_2 := blk_frozen BK297.out 2
                    have hfz45_3 := blk_frozen BK297.out 3
                    have p299 : 0 ≤ (x5_2 : Int) := of_decide_eq_true (by first | (with_reducible assumption) | assumption)
                    have q299 : x5_2 < (l0_3.length : Int) := of_decide_eq_true (by first | (with_reducible assumption) | assumption)
                    obtain ⟨ad299, A299_0, c299_0, e299, hx299_0, hl299_0, hi299_0⟩ := at_L2 HR0_3.out x5_2 p299 q299
                    cases e299
                    try replace hx299_0 := (HB.out.cell (World.block_lt_of_cell? w _ hx299_0)).trans hx299_0
                    have HR299_0 := Aside0.mk hi299_0
                    have HC299_0 := Aside0.mk hl299_0
                    clear hi299_0 hl299_0
                    replace p299 := eq_true p299
                    replace q299 := eq_true q299
                    have hcz46_0 : wr.cell? ⟨gb298, 0, none⟩ = some (.int .i64 a1_0) := (blk_cell BK298.out 0).trans rfl
                    have hcz46_1 : wr.cell? ⟨gb298, 1, none⟩ = some (.int .i64 a1_1) := (blk_cell BK298.out 1).trans rfl
                    have hcz46_2 : wr.cell? ⟨gb298, 2, none⟩ = some (.int .i64 a1_2) := (blk_cell BK298.out 2).trans rfl
                    have hcz46_3 : wr.cell? ⟨gb298, 3, none⟩ = some (.slice A1_3 l1_3.length c1_3) := (blk_cell BK298.out 3).trans rfl
                    have hfz46_0 := blk_frozen BK298.out 0
                    have hfz46_1 := blk_frozen BK298.out 1
                    have hfz46_2 := blk_frozen BK298.out 2
                    have hfz46_3 := blk_frozen BK298.out 3
                    have p300 : 0 ≤ (x5_2 : Int) := of_decide_eq_true (by first | (with_reducible assumption) | assumption)
                    have q300 : x5_2 < (l1_3.length : Int) := of_decide_eq_true (by first | (with_reducible assumption) | assumption)
                    obtain ⟨ad300, A300_0, c300_0, e300, hx300_0, hl300_0, hi300_0⟩ := at_L2 HR1_3.out x5_2 p300 q300
                    cases e300
                    try replace hx300_0 := (HB.out.cell (World.block_lt_of_cell? w _ hx300_0)).trans hx300_0
                    have HR300_0 := Aside0.mk hi300_0
                    have HC300_0 := Aside0.mk hl300_0
                    clear hi300_0 hl300_0
                    replace p300 := eq_true p300
                    replace q300 := eq_true q300
                    go_wp2
                    repeat (go_quiet (fail); try go_wp2)
                    go_ret
                    exact ⟨by first | rfl | (simp [errW_none, errW_some] <;> rfl) | (simp [*, errW_none, errW_some] <;> rfl), by repeat (first | (with_reducible first | exact HB.out | apply below_alloc | apply pw_below_drewN | apply below_drew1 | refine below_set ?_ GE297.out | refine below_set ?_ GE298.out) | exact HB.out)⟩
                · rw [if_neg c24] at H
                  exact absurd H (by simp)
              · rw [if_neg c23] at H
                exact absurd H (by simp)
            · rw [if_neg c22] at H
              have c22b0 : decide (x5_2 < (l0_3.length : Int)) = false := decide_eq_false c22
              clear c22
              obtain rfl := Option.some.inj H
              have hnb47 := NB297_298.out
              have hnc47 := NB298_297.out
              have hcz48_0 : wr.cell? ⟨gb297, 0, none⟩ = some (.int .i64 a0_0) := (blk_cell BK297.out 0).trans rfl
              have hcz48_1 : wr.cell? ⟨gb297, 1, none⟩ = some (.int .i64 a0_1) := (blk_cell BK297.out 1).trans rfl
              have hcz48_2 : wr.cell? ⟨gb297, 2, none⟩ = some (.int .i64 a0_2) := (blk_cell BK297.out 2).trans rfl
              have hcz48_3 : wr.cell? ⟨gb297, 3, none⟩ = some (.slice A0_3 l0_3.length c0_3) := (blk_cell BK297.out 3).trans rfl
              have hfz48_0 := blk_frozen BK297.out 0
              have hfz48_1 := blk_frozen BK297.out 1
              have hfz48_2 := blk_frozen BK297.out 2
              have hfz48_3 := blk_frozen BK297.out 3
              go_wp2
              repeat (go_quiet (fail); try go_wp2)
              go_ret
              exact ⟨by first | rfl | (simp [errW_none, errW_some] <;> rfl) | (simp [*, errW_none, errW_some] <;> rfl), by repeat (first | (with_reducible first | exact HB.out | apply below_alloc | apply pw_below_drewN | apply below_drew1 | refine below_set ?_ GE297.out | refine below_set ?_ GE298.out) | exact HB.out)⟩

end Go.Proofs.Ytpbbkfekibmaiaa.Q
