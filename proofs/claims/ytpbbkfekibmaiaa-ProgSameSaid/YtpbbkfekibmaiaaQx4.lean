-- Written by this session's wip/myprint.sh (a variant of the kit's printer); Lean checks it.
import Derived.Test.YtpbbkfekibmaiaaQx0
import Derived.Test.YtpbbkfekibmaiaaQx2
import Derived.Test.YtpbbkfekibmaiaaQx3
namespace Go.Proofs.Ytpbbkfekibmaiaa.Q
open Go.RowKit Go.Proofs.YtpbbkfekibmaiaaW.PrintWords Go.Proofs.YtpbbkfekibmaiaaW.PrintLast Go.Proofs.YtpbbkfekibmaiaaW.PrintMore
attribute [local go_sem] max2_int min2_int max_two min_two max_three min_three max_four min_four   -- for this text's walks alone
set_option linter.unusedVariables false
set_option linter.unusedSimpArgs false

/-! ### prog_Check: function 11 -/
mutual
def prog_Check.j0 : Nat → Bool → Int → Int → Int → List (List (S35)) → Option (Int × Int × Int)
  | 0, _, _, _, _, _ => none
  | k + 1, x30, x129000, x129001, x129002, x129003 => if x30 = true then (some ((-1), (-1), 1)) else (if x129000 > 16 then (prog_Check.j1 k true x129000 x129001 x129002 x129003) else (if x129001 > 16 then (prog_Check.j1 k true x129000 x129001 x129002 x129003) else (if x129002 > 8 then (prog_Check.j1 k true x129000 x129001 x129002 x129003) else (prog_Check.j1 k (decide ((x129003.length : Int) > 16)) x129000 x129001 x129002 x129003))))
def prog_Check.j1 : Nat → Bool → Int → Int → Int → List (List (S35)) → Option (Int × Int × Int)
  | 0, _, _, _, _, _ => none
  | k + 1, x49, x129000, x129001, x129002, x129003 => if x49 = true then (some ((-1), (-1), 4)) else (prog_Check.l0 k x129003 (x129003.length : Int) 0 x129000 x129001 x129002 x129003)
def prog_Check.l0 : Nat → List (List (S35)) → Int → Int → Int → Int → Int → List (List (S35)) → Option (Int × Int × Int)
  | 0, _, _, _, _, _, _, _ => none
  | k + 1, x51, x52, x53, x129000, x129001, x129002, x129003 => if x53 < x52 then (if 0 ≤ x53 then (if x53 < (x51.length : Int) then (if ((rd_L2 x51 x53).length : Int) = 0 then (some (x53, (-1), 1)) else (if ((rd_L2 x51 x53).length : Int) > 64 then (some (x53, (-1), 4)) else (prog_Check.l1 k x53 (rd_L2 x51 x53) x51 x52 x53 (rd_L2 x51 x53) ((rd_L2 x51 x53).length : Int) 0 x129000 x129001 x129002 x129003))) else (none)) else (none)) else ((prog_round.f k x129000 x129001 x129002 x129003).bind fun bt129 => (if bt129.2.2 = true then (some (bt129.1, bt129.2.1, 8)) else (some (0, 0, 0))))
def prog_Check.l1 : Nat → Int → List (S35) → List (List (S35)) → Int → Int → List (S35) → Int → Int → Int → Int → Int → List (List (S35)) → Option (Int × Int × Int)
  | 0, _, _, _, _, _, _, _, _, _, _, _, _ => none
  | k + 1, x5, x6, x51, x52, x53, x68, x69, x70, x129000, x129001, x129002, x129003 => if x70 < x69 then (if 0 ≤ x70 then (if x70 < (x68.length : Int) then ((prog_May.f k x129000 x129001 x129002 x129003 ((rd_T35 x68 x70).f0) ((rd_T35 x68 x70).f1) ((rd_T35 x68 x70).f2) ((rd_T35 x68 x70).f3) (x6.length : Int)).bind fun t135 => (if t135 = true then (prog_Check.l1 k x5 x6 x51 x52 x53 x68 x69 (wrap64 (x70 + 1)) x129000 x129001 x129002 x129003) else (some (x5, x70, 3)))) else (none)) else (none)) else (prog_Check.l0 k x51 x52 (wrap64 (x53 + 1)) x129000 x129001 x129002 x129003)
end
def prog_Check.f (k : Nat) (a0_0 : Int) (a0_1 : Int) (a0_2 : Int) (l0_3 : List (List (S35))) : Option (Int × Int × Int) := if a0_0 < 0 then (prog_Check.j0 k true a0_0 a0_1 a0_2 l0_3) else (if a0_1 < 0 then (prog_Check.j0 k true a0_0 a0_1 a0_2 l0_3) else (if a0_2 < 0 then (prog_Check.j0 k true a0_0 a0_1 a0_2 l0_3) else (prog_Check.j0 k ((l0_3.length : Int) == 0) a0_0 a0_1 a0_2 l0_3)))
theorem prog_Check.mono_l : ∀ k, (∀ y0 y1 y2 y3 y4, LeO (prog_Check.j0 k y0 y1 y2 y3 y4) (prog_Check.j0 (k + 1) y0 y1 y2 y3 y4)) ∧ (∀ y0 y1 y2 y3 y4, LeO (prog_Check.j1 k y0 y1 y2 y3 y4) (prog_Check.j1 (k + 1) y0 y1 y2 y3 y4)) ∧ (∀ y0 y1 y2 y3 y4 y5 y6, LeO (prog_Check.l0 k y0 y1 y2 y3 y4 y5 y6) (prog_Check.l0 (k + 1) y0 y1 y2 y3 y4 y5 y6)) ∧ (∀ y0 y1 y2 y3 y4 y5 y6 y7 y8 y9 y10 y11, LeO (prog_Check.l1 k y0 y1 y2 y3 y4 y5 y6 y7 y8 y9 y10 y11) (prog_Check.l1 (k + 1) y0 y1 y2 y3 y4 y5 y6 y7 y8 y9 y10 y11))
  | 0 => ⟨fun _ _ _ _ _ r h => by simp [prog_Check.j0] at h, fun _ _ _ _ _ r h => by simp [prog_Check.j1] at h, fun _ _ _ _ _ _ _ r h => by simp [prog_Check.l0] at h, fun _ _ _ _ _ _ _ _ _ _ _ _ r h => by simp [prog_Check.l1] at h⟩
  | k + 1 => by
    obtain ⟨ih0, ih1, ih2, ih3⟩ := prog_Check.mono_l k
    refine ⟨?_, ?_, ?_, ?_⟩
    · intro y0 y1 y2 y3 y4
      unfold prog_Check.j0
      repeat' first
      | (with_reducible exact ih0 _ _ _ _ _)
      | (with_reducible exact ih1 _ _ _ _ _)
      | (with_reducible exact ih2 _ _ _ _ _ _ _)
      | (with_reducible exact ih3 _ _ _ _ _ _ _ _ _ _ _ _)
      | (with_reducible exact prog_May.mono _ _ _ _ _ _ _ _ _ _)
      | (with_reducible exact prog_round.mono _ _ _ _ _)
      | (with_reducible exact LeO.refl _)
      | (with_reducible exact LeO.none _)
      | (with_reducible refine LeO.ite ?_ ?_)
      | (with_reducible refine LeO.bind ?_ (fun _ => ?_))
      | exact ih0 _ _ _ _ _
      | exact ih1 _ _ _ _ _
      | exact ih2 _ _ _ _ _ _ _
      | exact ih3 _ _ _ _ _ _ _ _ _ _ _ _
      | exact prog_May.mono _ _ _ _ _ _ _ _ _ _
      | exact prog_round.mono _ _ _ _ _
      | exact LeO.none _
      | refine LeO.ite ?_ ?_
      | refine LeO.bind ?_ (fun _ => ?_)
    · intro y0 y1 y2 y3 y4
      unfold prog_Check.j1
      repeat' first
      | (with_reducible exact ih0 _ _ _ _ _)
      | (with_reducible exact ih1 _ _ _ _ _)
      | (with_reducible exact ih2 _ _ _ _ _ _ _)
      | (with_reducible exact ih3 _ _ _ _ _ _ _ _ _ _ _ _)
      | (with_reducible exact prog_May.mono _ _ _ _ _ _ _ _ _ _)
      | (with_reducible exact prog_round.mono _ _ _ _ _)
      | (with_reducible exact LeO.refl _)
      | (with_reducible exact LeO.none _)
      | (with_reducible refine LeO.ite ?_ ?_)
      | (with_reducible refine LeO.bind ?_ (fun _ => ?_))
      | exact ih0 _ _ _ _ _
      | exact ih1 _ _ _ _ _
      | exact ih2 _ _ _ _ _ _ _
      | exact ih3 _ _ _ _ _ _ _ _ _ _ _ _
      | exact prog_May.mono _ _ _ _ _ _ _ _ _ _
      | exact prog_round.mono _ _ _ _ _
      | exact LeO.none _
      | refine LeO.ite ?_ ?_
      | refine LeO.bind ?_ (fun _ => ?_)
    · intro y0 y1 y2 y3 y4 y5 y6
      unfold prog_Check.l0
      repeat' first
      | (with_reducible exact ih0 _ _ _ _ _)
      | (with_reducible exact ih1 _ _ _ _ _)
      | (with_reducible exact ih2 _ _ _ _ _ _ _)
      | (with_reducible exact ih3 _ _ _ _ _ _ _ _ _ _ _ _)
      | (with_reducible exact prog_May.mono _ _ _ _ _ _ _ _ _ _)
      | (with_reducible exact prog_round.mono _ _ _ _ _)
      | (with_reducible exact LeO.refl _)
      | (with_reducible exact LeO.none _)
      | (with_reducible refine LeO.ite ?_ ?_)
      | (with_reducible refine LeO.bind ?_ (fun _ => ?_))
      | exact ih0 _ _ _ _ _
      | exact ih1 _ _ _ _ _
      | exact ih2 _ _ _ _ _ _ _
      | exact ih3 _ _ _ _ _ _ _ _ _ _ _ _
      | exact prog_May.mono _ _ _ _ _ _ _ _ _ _
      | exact prog_round.mono _ _ _ _ _
      | exact LeO.none _
      | refine LeO.ite ?_ ?_
      | refine LeO.bind ?_ (fun _ => ?_)
    · intro y0 y1 y2 y3 y4 y5 y6 y7 y8 y9 y10 y11
      unfold prog_Check.l1
      repeat' first
      | (with_reducible exact ih0 _ _ _ _ _)
      | (with_reducible exact ih1 _ _ _ _ _)
      | (with_reducible exact ih2 _ _ _ _ _ _ _)
      | (with_reducible exact ih3 _ _ _ _ _ _ _ _ _ _ _ _)
      | (with_reducible exact prog_May.mono _ _ _ _ _ _ _ _ _ _)
      | (with_reducible exact prog_round.mono _ _ _ _ _)
      | (with_reducible exact LeO.refl _)
      | (with_reducible exact LeO.none _)
      | (with_reducible refine LeO.ite ?_ ?_)
      | (with_reducible refine LeO.bind ?_ (fun _ => ?_))
      | exact ih0 _ _ _ _ _
      | exact ih1 _ _ _ _ _
      | exact ih2 _ _ _ _ _ _ _
      | exact ih3 _ _ _ _ _ _ _ _ _ _ _ _
      | exact prog_May.mono _ _ _ _ _ _ _ _ _ _
      | exact prog_round.mono _ _ _ _ _
      | exact LeO.none _
      | refine LeO.ite ?_ ?_
      | refine LeO.bind ?_ (fun _ => ?_)
theorem prog_Check.mono : ∀ a0 a1 a2 a3 k, LeO (prog_Check.f k a0 a1 a2 a3) (prog_Check.f (k + 1) a0 a1 a2 a3) := by
  intro a0 a1 a2 a3 k
  obtain ⟨ih0, ih1, ih2, ih3⟩ := prog_Check.mono_l k
  unfold prog_Check.f
  repeat' first
      | (with_reducible exact ih0 _ _ _ _ _)
      | (with_reducible exact ih1 _ _ _ _ _)
      | (with_reducible exact ih2 _ _ _ _ _ _ _)
      | (with_reducible exact ih3 _ _ _ _ _ _ _ _ _ _ _ _)
      | (with_reducible exact prog_May.mono _ _ _ _ _ _ _ _ _ _)
      | (with_reducible exact prog_round.mono _ _ _ _ _)
      | (with_reducible exact LeO.refl _)
      | (with_reducible exact LeO.none _)
      | (with_reducible refine LeO.ite ?_ ?_)
      | (with_reducible refine LeO.bind ?_ (fun _ => ?_))
      | exact ih0 _ _ _ _ _
      | exact ih1 _ _ _ _ _
      | exact ih2 _ _ _ _ _ _ _
      | exact ih3 _ _ _ _ _ _ _ _ _ _ _ _
      | exact prog_May.mono _ _ _ _ _ _ _ _ _ _
      | exact prog_round.mono _ _ _ _ _
      | exact LeO.none _
      | refine LeO.ite ?_ ?_
      | refine LeO.bind ?_ (fun _ => ?_)
set_option maxHeartbeats 8000000 in
set_option maxRecDepth 100000 in
theorem prog_Check.calls (k : Nat) (a0_0 : Int) (a0_1 : Int) (a0_2 : Int) (A0_3 : Option Addr) (c0_3 : Nat) (l0_3 : List (List (S35))) (r1 : Int) (r2 : Int) (r3 : Int) (w : World) (hr0_3 : Kd.C (Kd.slice 35 k35) w A0_3 l0_3.length l0_3) (hc0_3 : l0_3.length ≤ c0_3) (h : prog_Check.f k a0_0 a0_1 a0_2 l0_3 = some (r1, r2, r3)) :
    Calls Try.prog 11 #[.agg #[.int .i64 a0_0, .int .i64 a0_1, .int .i64 a0_2, .slice A0_3 l0_3.length c0_3]] w fun e w' => e = .returned (.tuple #[.int .i64 r1, .int .i64 r2, .int .i64 r3]) ∧ Below w.heap.size w w' := by
  have hu24 := Try.underlying24
  have hu35 := Try.underlying35
  have HR0_3 := Aside0.mk hr0_3
  have HC0_3 := Aside0.mk hc0_3
  clear hr0_3 hc0_3
  have HB := Aside0.mk (Below.refl w.heap.size w)
  have H : (if a0_0 < 0 then (prog_Check.j0 k true a0_0 a0_1 a0_2 l0_3) else (if a0_1 < 0 then (prog_Check.j0 k true a0_0 a0_1 a0_2 l0_3) else (if a0_2 < 0 then (prog_Check.j0 k true a0_0 a0_1 a0_2 l0_3) else (prog_Check.j0 k ((l0_3.length : Int) == 0) a0_0 a0_1 a0_2 l0_3)))) = some (r1, r2, r3) := h
  clear h
  have HC2 := Aside0.mk H
  clear H
  go_enter Try.func11, Try.ntmps11
  go_upto_region 1 with (first | ((with_reducible refine gate_dst (N := 1) rfl ?_); (try (refine gate_guard (by rfl) ?_; dsimp only)); refine box_event ?hg (N := 1) ?hd (cs := #[.int .i64 a0_0, .int .i64 a0_1, .int .i64 a0_2, .slice A0_3 l0_3.length c0_3]) (t := 24) ?hr ?_; (case hd => rfl); (case hg => rfl); (case hr => first | (go_simp; done) | (go_simp; rfl)); intro gb128 hg w3 hbox hb; have n0_ := Aside0.mk (below_step (by repeat (first | (with_reducible first | exact HB.out | apply below_alloc | apply pw_below_drewN | apply below_drew1) | exact HB.out)) hb); have n1_ := Aside0.mk (hbox); have n2_ := Aside0.mk ((by rw [hg]; exact (below_size (by repeat (first | (with_reducible first | exact HB.out | apply below_alloc | apply pw_below_drewN | apply below_drew1) | exact HB.out))) : w.heap.size ≤ gb128)); have n3_ := Aside0.mk ((by rw [hg]; exact (below_size (by repeat (first | (with_reducible first | exact HB.out | apply below_alloc | apply pw_below_drewN | apply below_drew1) | exact HB.out))) : w.heap.size ≤ gb128)); clear HB; have HB := n0_; have BK128 := n1_; have GW128 := n2_; have GE128 := n3_; clear n0_ n1_ n2_ n3_; clear hb hbox hg))
  (try simp only [Act.put, List.setIfInBounds_toArray, List.set_cons_zero, List.set_cons_succ])
  go_cut [30] (fun v30 wc => ∃ (kq : Nat) (x30_1 : Bool), v30 = .bool x30_1 ∧ Aside0 (prog_Check.j0 kq x30_1 a0_0 a0_1 a0_2 l0_3 = some (r1, r2, r3)) ∧ Aside0 (kq ≤ k) ∧ Aside0 (wc.heap[gb128]? = some (.cells #[.int .i64 a0_0, .int .i64 a0_1, .int .i64 a0_2, (.slice A0_3 l0_3.length c0_3)] 24 (0, 0))) ∧ Aside0 (Below w.heap.size w wc))
  case first =>
    have H := HC2.out
    clear HC2
    by_cases c4 : a0_0 < 0
    · rw [if_pos c4] at H
      have c4b0 : decide (a0_0 < 0) = true := decide_eq_true c4
      clear c4
      (first | rw [c4b0] | (simp only [i64_w, i32_w]; rw [c4b0]) | skip)
      have H' := Aside0.mk H
      clear H
      have hcz5_0 : w3.cell? ⟨gb128, 0, none⟩ = some (.int .i64 a0_0) := (blk_cell BK128.out 0).trans rfl
      have hcz5_1 : w3.cell? ⟨gb128, 1, none⟩ = some (.int .i64 a0_1) := (blk_cell BK128.out 1).trans rfl
      have hcz5_2 : w3.cell? ⟨gb128, 2, none⟩ = some (.int .i64 a0_2) := (blk_cell BK128.out 2).trans rfl
      have hcz5_3 : w3.cell? ⟨gb128, 3, none⟩ = some (.slice A0_3 l0_3.length c0_3) := (blk_cell BK128.out 3).trans rfl
      have hfz5_0 := blk_frozen BK128.out 0
      have hfz5_1 := blk_frozen BK128.out 1
      have hfz5_2 := blk_frozen BK128.out 2
      have hfz5_3 := blk_frozen BK128.out 3
      go_wp2
      go_meet
      case rel => exact ⟨_, (true), (by first | rfl | (simp; done) | (simp [*]; done)), H', ⟨by first | omega | exact Nat.le_refl _⟩, ⟨by (with_reducible repeat (first | refine blk_drewN ?_ _ | refine blk_drew ?_ | refine blk_alloc ?_ _)); exact BK128.out⟩, ⟨by repeat (first | (with_reducible first | exact HB.out | apply below_alloc | apply pw_below_drewN | apply below_drew1 | refine below_set ?_ GE128.out) | exact HB.out)⟩⟩
    · rw [if_neg c4] at H
      have c4b0 : decide (a0_0 < 0) = false := decide_eq_false c4
      clear c4
      (first | rw [c4b0] | (simp only [i64_w, i32_w]; rw [c4b0]) | skip)
      by_cases c6 : a0_1 < 0
      · rw [if_pos c6] at H
        have c6b0 : decide (a0_1 < 0) = true := decide_eq_true c6
        clear c6
        have H' := Aside0.mk H
        clear H
        have hcz7_0 : w3.cell? ⟨gb128, 0, none⟩ = some (.int .i64 a0_0) := (blk_cell BK128.out 0).trans rfl
        have hcz7_1 : w3.cell? ⟨gb128, 1, none⟩ = some (.int .i64 a0_1) := (blk_cell BK128.out 1).trans rfl
        have hcz7_2 : w3.cell? ⟨gb128, 2, none⟩ = some (.int .i64 a0_2) := (blk_cell BK128.out 2).trans rfl
        have hcz7_3 : w3.cell? ⟨gb128, 3, none⟩ = some (.slice A0_3 l0_3.length c0_3) := (blk_cell BK128.out 3).trans rfl
        have hfz7_0 := blk_frozen BK128.out 0
        have hfz7_1 := blk_frozen BK128.out 1
        have hfz7_2 := blk_frozen BK128.out 2
        have hfz7_3 := blk_frozen BK128.out 3
        go_wp2
        go_meet
        case rel => exact ⟨_, (true), (by first | rfl | (simp; done) | (simp [*]; done)), H', ⟨by first | omega | exact Nat.le_refl _⟩, ⟨by (with_reducible repeat (first | refine blk_drewN ?_ _ | refine blk_drew ?_ | refine blk_alloc ?_ _)); exact BK128.out⟩, ⟨by repeat (first | (with_reducible first | exact HB.out | apply below_alloc | apply pw_below_drewN | apply below_drew1 | refine below_set ?_ GE128.out) | exact HB.out)⟩⟩
      · rw [if_neg c6] at H
        have c6b0 : decide (a0_1 < 0) = false := decide_eq_false c6
        clear c6
        by_cases c8 : a0_2 < 0
        · rw [if_pos c8] at H
          have c8b0 : decide (a0_2 < 0) = true := decide_eq_true c8
          clear c8
          have H' := Aside0.mk H
          clear H
          have hcz9_0 : w3.cell? ⟨gb128, 0, none⟩ = some (.int .i64 a0_0) := (blk_cell BK128.out 0).trans rfl
          have hcz9_1 : w3.cell? ⟨gb128, 1, none⟩ = some (.int .i64 a0_1) := (blk_cell BK128.out 1).trans rfl
          have hcz9_2 : w3.cell? ⟨gb128, 2, none⟩ = some (.int .i64 a0_2) := (blk_cell BK128.out 2).trans rfl
          have hcz9_3 : w3.cell? ⟨gb128, 3, none⟩ = some (.slice A0_3 l0_3.length c0_3) := (blk_cell BK128.out 3).trans rfl
          have hfz9_0 := blk_frozen BK128.out 0
          have hfz9_1 := blk_frozen BK128.out 1
          have hfz9_2 := blk_frozen BK128.out 2
          have hfz9_3 := blk_frozen BK128.out 3
          go_wp2
          go_meet
          case rel => exact ⟨_, (true), (by first | rfl | (simp; done) | (simp [*]; done)), H', ⟨by first | omega | exact Nat.le_refl _⟩, ⟨by (with_reducible repeat (first | refine blk_drewN ?_ _ | refine blk_drew ?_ | refine blk_alloc ?_ _)); exact BK128.out⟩, ⟨by repeat (first | (with_reducible first | exact HB.out | apply below_alloc | apply pw_below_drewN | apply below_drew1 | refine below_set ?_ GE128.out) | exact HB.out)⟩⟩
        · rw [if_neg c8] at H
          have c8b0 : decide (a0_2 < 0) = false := decide_eq_false c8
          clear c8
          have H' := Aside0.mk H
          clear H
          have hcz10_0 : w3.cell? ⟨gb128, 0, none⟩ = some (.int .i64 a0_0) := (blk_cell BK128.out 0).trans rfl
          have hcz10_1 : w3.cell? ⟨gb128, 1, none⟩ = some (.int .i64 a0_1) := (blk_cell BK128.out 1).trans rfl
          have hcz10_2 : w3.cell? ⟨gb128, 2, none⟩ = some (.int .i64 a0_2) := (blk_cell BK128.out 2).trans rfl
          have hcz10_3 : w3.cell? ⟨gb128, 3, none⟩ = some (.slice A0_3 l0_3.length c0_3) := (blk_cell BK128.out 3).trans rfl
          have hfz10_0 := blk_frozen BK128.out 0
          have hfz10_1 := blk_frozen BK128.out 1
          have hfz10_2 := blk_frozen BK128.out 2
          have hfz10_3 := blk_frozen BK128.out 3
          go_wp2
          go_meet
          case rel => exact ⟨_, (((l0_3.length : Int) == 0)), (by first | rfl | (simp; done) | (simp [*]; done)), H', ⟨by first | omega | exact Nat.le_refl _⟩, ⟨by (with_reducible repeat (first | refine blk_drewN ?_ _ | refine blk_drew ?_ | refine blk_alloc ?_ _)); exact BK128.out⟩, ⟨by repeat (first | (with_reducible first | exact HB.out | apply below_alloc | apply pw_below_drewN | apply below_drew1 | refine below_set ?_ GE128.out) | exact HB.out)⟩⟩
  case rest =>
    clear HC2
    try clear c1
    try clear p2
    try clear c4
    try clear c4b0
    try clear c6
    try clear c6b0
    try clear c8
    try clear c8b0
    try clear hcz10_0
    try clear hcz10_1
    try clear hcz10_2
    try clear hcz10_3
    try clear hcz5_0
    try clear hcz5_1
    try clear hcz5_2
    try clear hcz5_3
    try clear hcz7_0
    try clear hcz7_1
    try clear hcz7_2
    try clear hcz7_3
    try clear hcz9_0
    try clear hcz9_1
    try clear hcz9_2
    try clear hcz9_3
    try clear hfz10_0
    try clear hfz10_1
    try clear hfz10_2
    try clear hfz10_3
    try clear hfz5_0
    try clear hfz5_1
    try clear hfz5_2
    try clear hfz5_3
    try clear hfz7_0
    try clear hfz7_1
    try clear hfz7_2
    try clear hfz7_3
    try clear hfz9_0
    try clear hfz9_1
    try clear hfz9_2
    try clear hfz9_3
    obtain ⟨kq, x30_1, rfl, HA, HJ1, BK128, HB⟩ := hcut
    cases kq with
    | zero => exact absurd HA.out (by simp [prog_Check.j0])
    | succ kj1 =>
      have H := HA.out
      clear HA
      simp only [prog_Check.j0] at H
      by_cases c11 : x30_1 = true
      · subst c11
        have H1 : (some ((-1), (-1), 1)) = some (r1, r2, r3) := by rw [if_pos rfl] at H; exact H
        clear H
        have H := H1
        clear H1
        simp only [Option.some.injEq, Prod.mk.injEq] at H
        obtain ⟨rfl, rfl, rfl⟩ := H
        go_wp2
        go_ret3
        exact ⟨by first | rfl | (simp [errW_none, errW_some] <;> rfl) | (simp [*, errW_none, errW_some] <;> rfl), by repeat (first | (with_reducible first | exact HB.out | apply below_alloc | apply pw_below_drewN | apply below_drew1 | refine below_set ?_ GE128.out) | exact HB.out)⟩
      · replace c11 := Bool.eq_false_iff.mpr c11
        subst c11
        have H1 : (if a0_0 > 16 then (prog_Check.j1 kj1 true a0_0 a0_1 a0_2 l0_3) else (if a0_1 > 16 then (prog_Check.j1 kj1 true a0_0 a0_1 a0_2 l0_3) else (if a0_2 > 8 then (prog_Check.j1 kj1 true a0_0 a0_1 a0_2 l0_3) else (prog_Check.j1 kj1 (decide ((l0_3.length : Int) > 16)) a0_0 a0_1 a0_2 l0_3)))) = some (r1, r2, r3) := by rw [if_neg (show ¬ (false = true) by decide)] at H; exact H
        clear H
        have H := H1
        clear H1
        have HC12 := Aside0.mk H
        clear H
        go_upto_region 3 with (fail)
        go_cut [49] (fun v49 wc => ∃ (kq : Nat) (x49_11 : Bool), v49 = .bool x49_11 ∧ Aside0 (prog_Check.j1 kq x49_11 a0_0 a0_1 a0_2 l0_3 = some (r1, r2, r3)) ∧ Aside0 (kq ≤ kj1) ∧ Aside0 (wc.heap[gb128]? = some (.cells #[.int .i64 a0_0, .int .i64 a0_1, .int .i64 a0_2, (.slice A0_3 l0_3.length c0_3)] 24 (0, 0))) ∧ Aside0 (Below w.heap.size w wc))
        case first =>
          have H := HC12.out
          clear HC12
          by_cases c13 : a0_0 > 16
          · rw [if_pos c13] at H
            have c13b0 : decide (16 < a0_0) = true := decide_eq_true c13
            clear c13
            (first | rw [c13b0] | (simp only [i64_w, i32_w]; rw [c13b0]) | skip)
            have H' := Aside0.mk H
            clear H
            have hcz14_0 : wc.cell? ⟨gb128, 0, none⟩ = some (.int .i64 a0_0) := (blk_cell BK128.out 0).trans rfl
            have hcz14_1 : wc.cell? ⟨gb128, 1, none⟩ = some (.int .i64 a0_1) := (blk_cell BK128.out 1).trans rfl
            have hcz14_2 : wc.cell? ⟨gb128, 2, none⟩ = some (.int .i64 a0_2) := (blk_cell BK128.out 2).trans rfl
            have hcz14_3 : wc.cell? ⟨gb128, 3, none⟩ = some (.slice A0_3 l0_3.length c0_3) := (blk_cell BK128.out 3).trans rfl
            have hfz14_0 := blk_frozen BK128.out 0
            have hfz14_1 := blk_frozen BK128.out 1
            have hfz14_2 := blk_frozen BK128.out 2
            have hfz14_3 := blk_frozen BK128.out 3
            go_wp2
            go_meet
            case rel => exact ⟨_, (true), (by first | rfl | (simp; done) | (simp [*]; done)), H', ⟨by have := HJ1.out; first | omega | exact Nat.le_refl _⟩, ⟨by (with_reducible repeat (first | refine blk_drewN ?_ _ | refine blk_drew ?_ | refine blk_alloc ?_ _)); exact BK128.out⟩, ⟨by repeat (first | (with_reducible first | exact HB.out | apply below_alloc | apply pw_below_drewN | apply below_drew1 | refine below_set ?_ GE128.out) | exact HB.out)⟩⟩
          · rw [if_neg c13] at H
            have c13b0 : decide (16 < a0_0) = false := decide_eq_false c13
            clear c13
            (first | rw [c13b0] | (simp only [i64_w, i32_w]; rw [c13b0]) | skip)
            by_cases c15 : a0_1 > 16
            · rw [if_pos c15] at H
              have c15b0 : decide (16 < a0_1) = true := decide_eq_true c15
              clear c15
              have H' := Aside0.mk H
              clear H
              have hcz16_0 : wc.cell? ⟨gb128, 0, none⟩ = some (.int .i64 a0_0) := (blk_cell BK128.out 0).trans rfl
              have hcz16_1 : wc.cell? ⟨gb128, 1, none⟩ = some (.int .i64 a0_1) := (blk_cell BK128.out 1).trans rfl
              have hcz16_2 : wc.cell? ⟨gb128, 2, none⟩ = some (.int .i64 a0_2) := (blk_cell BK128.out 2).trans rfl
              have hcz16_3 : wc.cell? ⟨gb128, 3, none⟩ = some (.slice A0_3 l0_3.length c0_3) := (blk_cell BK128.out 3).trans rfl
              have hfz16_0 := blk_frozen BK128.out 0
              have hfz16_1 := blk_frozen BK128.out 1
              have hfz16_2 := blk_frozen BK128.out 2
              have hfz16_3 := blk_frozen BK128.out 3
              go_wp2
              go_meet
              case rel => exact ⟨_, (true), (by first | rfl | (simp; done) | (simp [*]; done)), H', ⟨by have := HJ1.out; first | omega | exact Nat.le_refl _⟩, ⟨by (with_reducible repeat (first | refine blk_drewN ?_ _ | refine blk_drew ?_ | refine blk_alloc ?_ _)); exact BK128.out⟩, ⟨by repeat (first | (with_reducible first | exact HB.out | apply below_alloc | apply pw_below_drewN | apply below_drew1 | refine below_set ?_ GE128.out) | exact HB.out)⟩⟩
            · rw [if_neg c15] at H
              have c15b0 : decide (16 < a0_1) = false := decide_eq_false c15
              clear c15
              by_cases c17 : a0_2 > 8
              · rw [if_pos c17] at H
                have c17b0 : decide (8 < a0_2) = true := decide_eq_true c17
                clear c17
                have H' := Aside0.mk H
                clear H
                have hcz18_0 : wc.cell? ⟨gb128, 0, none⟩ = some (.int .i64 a0_0) := (blk_cell BK128.out 0).trans rfl
                have hcz18_1 : wc.cell? ⟨gb128, 1, none⟩ = some (.int .i64 a0_1) := (blk_cell BK128.out 1).trans rfl
                have hcz18_2 : wc.cell? ⟨gb128, 2, none⟩ = some (.int .i64 a0_2) := (blk_cell BK128.out 2).trans rfl
                have hcz18_3 : wc.cell? ⟨gb128, 3, none⟩ = some (.slice A0_3 l0_3.length c0_3) := (blk_cell BK128.out 3).trans rfl
                have hfz18_0 := blk_frozen BK128.out 0
                have hfz18_1 := blk_frozen BK128.out 1
                have hfz18_2 := blk_frozen BK128.out 2
                have hfz18_3 := blk_frozen BK128.out 3
                go_wp2
                go_meet
                case rel => exact ⟨_, (true), (by first | rfl | (simp; done) | (simp [*]; done)), H', ⟨by have := HJ1.out; first | omega | exact Nat.le_refl _⟩, ⟨by (with_reducible repeat (first | refine blk_drewN ?_ _ | refine blk_drew ?_ | refine blk_alloc ?_ _)); exact BK128.out⟩, ⟨by repeat (first | (with_reducible first | exact HB.out | apply below_alloc | apply pw_below_drewN | apply below_drew1 | refine below_set ?_ GE128.out) | exact HB.out)⟩⟩
              · rw [if_neg c17] at H
                have c17b0 : decide (8 < a0_2) = false := decide_eq_false c17
                clear c17
                have H' := Aside0.mk H
                clear H
                have hcz19_0 : wc.cell? ⟨gb128, 0, none⟩ = some (.int .i64 a0_0) := (blk_cell BK128.out 0).trans rfl
                have hcz19_1 : wc.cell? ⟨gb128, 1, none⟩ = some (.int .i64 a0_1) := (blk_cell BK128.out 1).trans rfl
                have hcz19_2 : wc.cell? ⟨gb128, 2, none⟩ = some (.int .i64 a0_2) := (blk_cell BK128.out 2).trans rfl
                have hcz19_3 : wc.cell? ⟨gb128, 3, none⟩ = some (.slice A0_3 l0_3.length c0_3) := (blk_cell BK128.out 3).trans rfl
                have hfz19_0 := blk_frozen BK128.out 0
                have hfz19_1 := blk_frozen BK128.out 1
                have hfz19_2 := blk_frozen BK128.out 2
                have hfz19_3 := blk_frozen BK128.out 3
                go_wp2
                go_meet
                case rel => exact ⟨_, (decide ((l0_3.length : Int) > 16)), (by first | rfl | (simp; done) | (simp [*]; done)), H', ⟨by have := HJ1.out; first | omega | exact Nat.le_refl _⟩, ⟨by (with_reducible repeat (first | refine blk_drewN ?_ _ | refine blk_drew ?_ | refine blk_alloc ?_ _)); exact BK128.out⟩, ⟨by repeat (first | (with_reducible first | exact HB.out | apply below_alloc | apply pw_below_drewN | apply below_drew1 | refine below_set ?_ GE128.out) | exact HB.out)⟩⟩
        case rest =>
          clear HC12
          try clear c1
          try clear p2
          try clear c4
          try clear c4b0
          try clear c6
          try clear c6b0
          try clear c8
          try clear c8b0
          try clear c11
          try clear c13
          try clear c13b0
          try clear c15
          try clear c15b0
          try clear c17
          try clear c17b0
          try clear hcz10_0
          try clear hcz10_1
          try clear hcz10_2
          try clear hcz10_3
          try clear hcz14_0
          try clear hcz14_1
          try clear hcz14_2
          try clear hcz14_3
          try clear hcz16_0
          try clear hcz16_1
          try clear hcz16_2
          try clear hcz16_3
          try clear hcz18_0
          try clear hcz18_1
          try clear hcz18_2
          try clear hcz18_3
          try clear hcz19_0
          try clear hcz19_1
          try clear hcz19_2
          try clear hcz19_3
          try clear hcz5_0
          try clear hcz5_1
          try clear hcz5_2
          try clear hcz5_3
          try clear hcz7_0
          try clear hcz7_1
          try clear hcz7_2
          try clear hcz7_3
          try clear hcz9_0
          try clear hcz9_1
          try clear hcz9_2
          try clear hcz9_3
          try clear hfz10_0
          try clear hfz10_1
          try clear hfz10_2
          try clear hfz10_3
          try clear hfz14_0
          try clear hfz14_1
          try clear hfz14_2
          try clear hfz14_3
          try clear hfz16_0
          try clear hfz16_1
          try clear hfz16_2
          try clear hfz16_3
          try clear hfz18_0
          try clear hfz18_1
          try clear hfz18_2
          try clear hfz18_3
          try clear hfz19_0
          try clear hfz19_1
          try clear hfz19_2
          try clear hfz19_3
          try clear hfz5_0
          try clear hfz5_1
          try clear hfz5_2
          try clear hfz5_3
          try clear hfz7_0
          try clear hfz7_1
          try clear hfz7_2
          try clear hfz7_3
          try clear hfz9_0
          try clear hfz9_1
          try clear hfz9_2
          try clear hfz9_3
          try clear p2
          obtain ⟨kq, x49_11, rfl, HA, HJ11, BK128, HB⟩ := hcut
          cases kq with
          | zero => exact absurd HA.out (by simp [prog_Check.j1])
          | succ kj11 =>
            have H := HA.out
            clear HA
            simp only [prog_Check.j1] at H
            by_cases c20 : x49_11 = true
            · subst c20
              have H1 : (some ((-1), (-1), 4)) = some (r1, r2, r3) := by rw [if_pos rfl] at H; exact H
              clear H
              have H := H1
              clear H1
              simp only [Option.some.injEq, Prod.mk.injEq] at H
              obtain ⟨rfl, rfl, rfl⟩ := H
              go_wp2
              go_ret3
              exact ⟨by first | rfl | (simp [errW_none, errW_some] <;> rfl) | (simp [*, errW_none, errW_some] <;> rfl), by repeat (first | (with_reducible first | exact HB.out | apply below_alloc | apply pw_below_drewN | apply below_drew1 | refine below_set ?_ GE128.out) | exact HB.out)⟩
            · replace c20 := Bool.eq_false_iff.mpr c20
              subst c20
              have H1 : (prog_Check.l0 kj11 l0_3 (l0_3.length : Int) 0 a0_0 a0_1 a0_2 l0_3) = some (r1, r2, r3) := by rw [if_neg (show ¬ (false = true) by decide)] at H; exact H
              clear H
              have H := H1
              clear H1
              have H' := Aside0.mk H
              clear H
              have hcz21_0 : wc.cell? ⟨gb128, 0, none⟩ = some (.int .i64 a0_0) := (blk_cell BK128.out 0).trans rfl
              have hcz21_1 : wc.cell? ⟨gb128, 1, none⟩ = some (.int .i64 a0_1) := (blk_cell BK128.out 1).trans rfl
              have hcz21_2 : wc.cell? ⟨gb128, 2, none⟩ = some (.int .i64 a0_2) := (blk_cell BK128.out 2).trans rfl
              have hcz21_3 : wc.cell? ⟨gb128, 3, none⟩ = some (.slice A0_3 l0_3.length c0_3) := (blk_cell BK128.out 3).trans rfl
              have hfz21_0 := blk_frozen BK128.out 0
              have hfz21_1 := blk_frozen BK128.out 1
              have hfz21_2 := blk_frozen BK128.out 2
              have hfz21_3 := blk_frozen BK128.out 3
              go_wp2
              go_loopg [53] kj11 (fun kq v53 w' => ∃ (x53_3 : Int), v53 = .int .i64 x53_3 ∧ Aside0 (prog_Check.l0 kq l0_3 (l0_3.length : Int) x53_3 a0_0 a0_1 a0_2 l0_3 = some (r1, r2, r3)) ∧ Aside0 (kq ≤ kj11) ∧ Aside0 (w'.heap[gb128]? = some (.cells #[.int .i64 a0_0, .int .i64 a0_1, .int .i64 a0_2, (.slice A0_3 l0_3.length c0_3)] 24 (0, 0))) ∧ Aside0 (Below w.heap.size w w'))
              case atStart => exact ⟨(0), (by first | rfl | (simp; done) | (simp [*]; done)), H', ⟨Nat.le_refl _⟩, ⟨by (with_reducible repeat (first | refine blk_drewN ?_ _ | refine blk_drew ?_ | refine blk_alloc ?_ _)); exact BK128.out⟩, ⟨by repeat (first | (with_reducible first | exact HB.out | apply below_alloc | apply pw_below_drewN | apply below_drew1 | refine below_set ?_ GE128.out) | exact HB.out)⟩⟩
              case round =>
                clear H'
                try clear c1
                try clear c2
                try clear p2
                try clear c4
                try clear c4b0
                try clear c6
                try clear c6b0
                try clear c8
                try clear c8b0
                try clear c11
                try clear c13
                try clear c13b0
                try clear c15
                try clear c15b0
                try clear c17
                try clear c17b0
                try clear c20
                try clear hcz10_0
                try clear hcz10_1
                try clear hcz10_2
                try clear hcz10_3
                try clear hcz14_0
                try clear hcz14_1
                try clear hcz14_2
                try clear hcz14_3
                try clear hcz16_0
                try clear hcz16_1
                try clear hcz16_2
                try clear hcz16_3
                try clear hcz18_0
                try clear hcz18_1
                try clear hcz18_2
                try clear hcz18_3
                try clear hcz19_0
                try clear hcz19_1
                try clear hcz19_2
                try clear hcz19_3
                try clear hcz21_0
                try clear hcz21_1
                try clear hcz21_2
                try clear hcz21_3
                try clear hcz5_0
                try clear hcz5_1
                try clear hcz5_2
                try clear hcz5_3
                try clear hcz7_0
                try clear hcz7_1
                try clear hcz7_2
                try clear hcz7_3
                try clear hcz9_0
                try clear hcz9_1
                try clear hcz9_2
                try clear hcz9_3
                try clear hfz10_0
                try clear hfz10_1
                try clear hfz10_2
                try clear hfz10_3
                try clear hfz14_0
                try clear hfz14_1
                try clear hfz14_2
                try clear hfz14_3
                try clear hfz16_0
                try clear hfz16_1
                try clear hfz16_2
                try clear hfz16_3
                try clear hfz18_0
                try clear hfz18_1
                try clear hfz18_2
                try clear hfz18_3
                try clear hfz19_0
                try clear hfz19_1
                try clear hfz19_2
                try clear hfz19_3
                try clear hfz21_0
                try clear hfz21_1
                try clear hfz21_2
                try clear hfz21_3
                try clear hfz5_0
                try clear hfz5_1
                try clear hfz5_2
                try clear hfz5_3
                try clear hfz7_0
                try clear hfz7_1
                try clear hfz7_2
                try clear hfz7_3
                try clear hfz9_0
                try clear hfz9_1
                try clear hfz9_2
                try clear hfz9_3
                try clear p2
                obtain ⟨x53_3, rfl, HA, HK3, BK128, HB⟩ := hrel
                cases gk with
                | zero => exact absurd HA.out (by simp [prog_Check.l0])
                | succ k3 =>
                  have H := HA.out
                  clear HA
                  simp only [prog_Check.l0] at H
                  by_cases c22 : x53_3 < (l0_3.length : Int)
                  · rw [if_pos c22] at H
                    have c22b0 : decide (x53_3 < (l0_3.length : Int)) = true := decide_eq_true c22
                    clear c22
                    by_cases c23 : 0 ≤ x53_3
                    · rw [if_pos c23] at H
                      have c23b0 : decide (0 ≤ x53_3) = true := decide_eq_true c23
                      clear c23
                      by_cases c24 : x53_3 < (l0_3.length : Int)
                      · rw [if_pos c24] at H
                        have c24b0 : decide (x53_3 < (l0_3.length : Int)) = true := decide_eq_true c24
                        clear c24
                        by_cases c25 : ((rd_L2 l0_3 x53_3).length : Int) = 0
                        · rw [if_pos c25] at H
                          have c25b0 : (((rd_L2 l0_3 x53_3).length : Int) == 0) = true := beq_iff_eq.mpr c25
                          have c25b1 : (((rd_L2 l0_3 x53_3).length : Int) != 0) = false := bne_eq_false_iff_eq.mpr c25
                          clear c25
                          simp only [Option.some.injEq, Prod.mk.injEq] at H
                          obtain ⟨rfl, rfl, rfl⟩ := H
                          have p132 : 0 ≤ (x53_3 : Int) := of_decide_eq_true (by first | (with_reducible assumption) | assumption)
                          have q132 : x53_3 < (l0_3.length : Int) := of_decide_eq_true (by first | (with_reducible assumption) | assumption)
                          obtain ⟨ad132, A132_0, c132_0, e132, hx132_0, hl132_0, hi132_0⟩ := at_L2 HR0_3.out x53_3 p132 q132
                          cases e132
                          try replace hx132_0 := (HB.out.cell (World.block_lt_of_cell? w _ hx132_0)).trans hx132_0
                          have HR132_0 := Aside0.mk hi132_0
                          have HC132_0 := Aside0.mk hl132_0
                          clear hi132_0 hl132_0
                          replace p132 := eq_true p132
                          replace q132 := eq_true q132
                          go_wp2
                          go_ret3
                          exact ⟨by first | rfl | (simp [errW_none, errW_some] <;> rfl) | (simp [*, errW_none, errW_some] <;> rfl), by repeat (first | (with_reducible first | exact HB.out | apply below_alloc | apply pw_below_drewN | apply below_drew1 | refine below_set ?_ GE128.out) | exact HB.out)⟩
                        · rw [if_neg c25] at H
                          have c25b0 : (((rd_L2 l0_3 x53_3).length : Int) == 0) = false := beq_eq_false_iff_ne.mpr c25
                          have c25b1 : (((rd_L2 l0_3 x53_3).length : Int) != 0) = true := bne_iff_ne.mpr c25
                          have c25b2 : ¬ ((rd_L2 l0_3 x53_3) = []) := fun h_ => c25 (by rw [h_]; rfl)
                          by_cases c26 : ((rd_L2 l0_3 x53_3).length : Int) > 64
                          · rw [if_pos c26] at H
                            have c26b0 : decide (64 < ((rd_L2 l0_3 x53_3).length : Int)) = true := decide_eq_true c26
                            have c26b1 : decide (64 < (rd_L2 l0_3 x53_3).length) = true := decide_eq_true (by omega)
                            clear c26
                            simp only [Option.some.injEq, Prod.mk.injEq] at H
                            obtain ⟨rfl, rfl, rfl⟩ := H
                            have p132 : 0 ≤ (x53_3 : Int) := of_decide_eq_true (by first | (with_reducible assumption) | assumption)
                            have q132 : x53_3 < (l0_3.length : Int) := of_decide_eq_true (by first | (with_reducible assumption) | assumption)
                            obtain ⟨ad132, A132_0, c132_0, e132, hx132_0, hl132_0, hi132_0⟩ := at_L2 HR0_3.out x53_3 p132 q132
                            cases e132
                            try replace hx132_0 := (HB.out.cell (World.block_lt_of_cell? w _ hx132_0)).trans hx132_0
                            have HR132_0 := Aside0.mk hi132_0
                            have HC132_0 := Aside0.mk hl132_0
                            clear hi132_0 hl132_0
                            replace p132 := eq_true p132
                            replace q132 := eq_true q132
                            go_wp2
                            go_ret3
                            exact ⟨by first | rfl | (simp [errW_none, errW_some] <;> rfl) | (simp [*, errW_none, errW_some] <;> rfl), by repeat (first | (with_reducible first | exact HB.out | apply below_alloc | apply pw_below_drewN | apply below_drew1 | refine below_set ?_ GE128.out) | exact HB.out)⟩
                          · rw [if_neg c26] at H
                            have c26b0 : decide (64 < ((rd_L2 l0_3 x53_3).length : Int)) = false := decide_eq_false c26
                            have c26b1 : decide (64 < (rd_L2 l0_3 x53_3).length) = false := decide_eq_false (by omega)
                            clear c26
                            have H' := Aside0.mk H
                            clear H
                            have p132 : 0 ≤ (x53_3 : Int) := of_decide_eq_true (by first | (with_reducible assumption) | assumption)
                            have q132 : x53_3 < (l0_3.length : Int) := of_decide_eq_true (by first | (with_reducible assumption) | assumption)
                            obtain ⟨ad132, A132_0, c132_0, e132, hx132_0, hl132_0, hi132_0⟩ := at_L2 HR0_3.out x53_3 p132 q132
                            cases e132
                            try replace hx132_0 := (HB.out.cell (World.block_lt_of_cell? w _ hx132_0)).trans hx132_0
                            have HR132_0 := Aside0.mk hi132_0
                            have HC132_0 := Aside0.mk hl132_0
                            clear hi132_0 hl132_0
                            replace p132 := eq_true p132
                            replace q132 := eq_true q132
                            go_wp2
                            go_loopg [70] k3 (fun kq v70 w' => ∃ (x70_4 : Int), v70 = .int .i64 x70_4 ∧ Aside0 (prog_Check.l1 kq x53_3 (rd_L2 l0_3 x53_3) l0_3 (l0_3.length : Int) x53_3 (rd_L2 l0_3 x53_3) ((rd_L2 l0_3 x53_3).length : Int) x70_4 a0_0 a0_1 a0_2 l0_3 = some (r1, r2, r3)) ∧ Aside0 (kq ≤ k3) ∧ Aside0 (w'.heap[gb128]? = some (.cells #[.int .i64 a0_0, .int .i64 a0_1, .int .i64 a0_2, (.slice (some ad132) l0_3.length c0_3)] 24 (0, 0))) ∧ Aside0 (Below w.heap.size w w'))
                            case atStart => exact ⟨(0), (by first | rfl | (simp; done) | (simp [*]; done)), H', ⟨Nat.le_refl _⟩, ⟨by (with_reducible repeat (first | refine blk_drewN ?_ _ | refine blk_drew ?_ | refine blk_alloc ?_ _)); exact BK128.out⟩, ⟨by repeat (first | (with_reducible first | exact HB.out | apply below_alloc | apply pw_below_drewN | apply below_drew1 | refine below_set ?_ GE128.out) | exact HB.out)⟩⟩
                            case round =>
                              clear H'
                              try clear c1
                              try clear p1
                              try clear q1
                              try clear hx1
                              try clear c2
                              try clear p2
                              try clear c4
                              try clear c4b0
                              try clear c6
                              try clear c6b0
                              try clear c8
                              try clear c8b0
                              try clear c11
                              try clear c13
                              try clear c13b0
                              try clear p13
                              try clear q13
                              try clear hx13
                              try clear c15
                              try clear c15b0
                              try clear c17
                              try clear c17b0
                              try clear c20
                              try clear c22
                              try clear c22b0
                              try clear c23
                              try clear c23b0
                              try clear c24
                              try clear c24b0
                              try clear c25
                              try clear c25b0
                              try clear c25b1
                              try clear c25b2
                              try clear c26
                              try clear c26b0
                              try clear c26b1
                              try clear hcz10_0
                              try clear hcz10_1
                              try clear hcz10_2
                              try clear hcz10_3
                              try clear hcz14_0
                              try clear hcz14_1
                              try clear hcz14_2
                              try clear hcz14_3
                              try clear hcz16_0
                              try clear hcz16_1
                              try clear hcz16_2
                              try clear hcz16_3
                              try clear hcz18_0
                              try clear hcz18_1
                              try clear hcz18_2
                              try clear hcz18_3
                              try clear hcz19_0
                              try clear hcz19_1
                              try clear hcz19_2
                              try clear hcz19_3
                              try clear hcz21_0
                              try clear hcz21_1
                              try clear hcz21_2
                              try clear hcz21_3
                              try clear hcz5_0
                              try clear hcz5_1
                              try clear hcz5_2
                              try clear hcz5_3
                              try clear hcz7_0
                              try clear hcz7_1
                              try clear hcz7_2
                              try clear hcz7_3
                              try clear hcz9_0
                              try clear hcz9_1
                              try clear hcz9_2
                              try clear hcz9_3
                              try clear hfz10_0
                              try clear hfz10_1
                              try clear hfz10_2
                              try clear hfz10_3
                              try clear hfz14_0
                              try clear hfz14_1
                              try clear hfz14_2
                              try clear hfz14_3
                              try clear hfz16_0
                              try clear hfz16_1
                              try clear hfz16_2
                              try clear hfz16_3
                              try clear hfz18_0
                              try clear hfz18_1
                              try clear hfz18_2
                              try clear hfz18_3
                              try clear hfz19_0
                              try clear hfz19_1
                              try clear hfz19_2
                              try clear hfz19_3
                              try clear hfz21_0
                              try clear hfz21_1
                              try clear hfz21_2
                              try clear hfz21_3
                              try clear hfz5_0
                              try clear hfz5_1
                              try clear hfz5_2
                              try clear hfz5_3
                              try clear hfz7_0
                              try clear hfz7_1
                              try clear hfz7_2
                              try clear hfz7_3
                              try clear hfz9_0
                              try clear hfz9_1
                              try clear hfz9_2
                              try clear hfz9_3
                              try clear hx132_0
                              try clear p132
                              try clear p2
                              try clear q132
                              obtain ⟨x70_4, rfl, HA, HK4, BK128, HB⟩ := hrel
                              cases gk with
                              | zero => exact absurd HA.out (by simp [prog_Check.l1])
                              | succ k4 =>
                                have H := HA.out
                                clear HA
                                simp only [prog_Check.l1] at H
                                by_cases c27 : x70_4 < ((rd_L2 l0_3 x53_3).length : Int)
                                · rw [if_pos c27] at H
                                  have c27b0 : decide (x70_4 < ((rd_L2 l0_3 x53_3).length : Int)) = true := decide_eq_true c27
                                  clear c27
                                  by_cases c28 : 0 ≤ x70_4
                                  · rw [if_pos c28] at H
                                    have c28b0 : decide (0 ≤ x70_4) = true := decide_eq_true c28
                                    clear c28
                                    by_cases c29 : x70_4 < ((rd_L2 l0_3 x53_3).length : Int)
                                    · rw [if_pos c29] at H
                                      have c29b0 : decide (x70_4 < ((rd_L2 l0_3 x53_3).length : Int)) = true := decide_eq_true c29
                                      clear c29
                                      replace H := Option.bind_eq_some_iff.mp H
                                      obtain ⟨t135, A300, H⟩ := H
                                      replace H : (if t135 = true then (prog_Check.l1 k4 x53_3 (rd_L2 l0_3 x53_3) l0_3 (l0_3.length : Int) x53_3 (rd_L2 l0_3 x53_3) ((rd_L2 l0_3 x53_3).length : Int) (wrap64 (x70_4 + 1)) a0_0 a0_1 a0_2 l0_3) else (some (x53_3, x70_4, 3))) = some (r1, r2, r3) := H
                                      have A30 := Aside0.mk A300
                                      clear A300
                                      by_cases c31 : t135 = true
                                      · subst c31
                                        have H1 : (prog_Check.l1 k4 x53_3 (rd_L2 l0_3 x53_3) l0_3 (l0_3.length : Int) x53_3 (rd_L2 l0_3 x53_3) ((rd_L2 l0_3 x53_3).length : Int) (wrap64 (x70_4 + 1)) a0_0 a0_1 a0_2 l0_3) = some (r1, r2, r3) := by rw [if_pos rfl] at H; exact H
                                        clear H
                                        have H := H1
                                        clear H1
                                        have H' := Aside0.mk H
                                        clear H
                                        have p133 : 0 ≤ (x70_4 : Int) := of_decide_eq_true (by first | (with_reducible assumption) | assumption)
                                        have q133 : x70_4 < ((rd_L2 l0_3 x53_3).length : Int) := of_decide_eq_true (by first | (with_reducible assumption) | assumption)
                                        obtain ⟨ad133, e133, hx133_0, hx133_1, hx133_2, hx133_3⟩ := at_T35 HR132_0.out x70_4 p133 q133
                                        cases e133
                                        try replace hx133_0 := (HB.out.cell (World.block_lt_of_cell? w _ hx133_0)).trans hx133_0
                                        try replace hx133_1 := (HB.out.cell (World.block_lt_of_cell? w _ hx133_1)).trans hx133_1
                                        try replace hx133_2 := (HB.out.cell (World.block_lt_of_cell? w _ hx133_2)).trans hx133_2
                                        try replace hx133_3 := (HB.out.cell (World.block_lt_of_cell? w _ hx133_3)).trans hx133_3
                                        replace p133 := eq_true p133
                                        replace q133 := eq_true q133
                                        go_wp2_with (first | ((with_reducible refine gate_dst (N := 8) rfl ?_); (try (refine gate_guard (by rfl) ?_; dsimp only)); refine box_event ?hg (N := 8) ?hd (cs := #[.int .i64 0, .int .i64 0, .int .i64 0, .int .i64 0]) (t := 35) ?hr ?_; (case hd => rfl); (case hg => rfl); (case hr => first | (go_simp; done) | (go_simp; rfl)); intro gb134 hg w32 hbox hb; have n0_ := Aside0.mk (blk_below (g := gb128) (o := .cells #[.int .i64 a0_0, .int .i64 a0_1, .int .i64 a0_2, .slice (some ad132) l0_3.length c0_3] 24 (0, 0)) (by (with_reducible repeat (first | refine blk_drewN ?_ _ | refine blk_drew ?_ | refine blk_alloc ?_ _)); exact BK128.out) hb); have n1_ := Aside0.mk (below_step (by repeat (first | (with_reducible first | exact HB.out | apply below_alloc | apply pw_below_drewN | apply below_drew1 | refine below_set ?_ GE128.out) | exact HB.out)) hb); have n2_ := Aside0.mk (hbox); have n3_ := Aside0.mk ((by rw [hg]; exact (below_size (by repeat (first | (with_reducible first | exact HB.out | apply below_alloc | apply pw_below_drewN | apply below_drew1 | refine below_set ?_ GE128.out) | exact HB.out))) : w.heap.size ≤ gb134)); have n4_ := Aside0.mk ((by rw [hg]; exact (below_size (by repeat (first | (with_reducible first | exact HB.out | apply below_alloc | apply pw_below_drewN | apply below_drew1 | refine below_set ?_ GE128.out) | exact HB.out))) : w.heap.size ≤ gb134)); have n5_ := Aside0.mk ((by rw [hg]; exact Nat.ne_of_lt (blk_lt (g := gb128) (o := .cells #[.int .i64 a0_0, .int .i64 a0_1, .int .i64 a0_2, .slice (some ad132) l0_3.length c0_3] 24 (0, 0)) (by (with_reducible repeat (first | refine blk_drewN ?_ _ | refine blk_drew ?_ | refine blk_alloc ?_ _)); exact BK128.out)) : gb128 ≠ gb134)); have n6_ := Aside0.mk ((by rw [hg]; exact Nat.ne_of_gt (blk_lt (g := gb128) (o := .cells #[.int .i64 a0_0, .int .i64 a0_1, .int .i64 a0_2, .slice (some ad132) l0_3.length c0_3] 24 (0, 0)) (by (with_reducible repeat (first | refine blk_drewN ?_ _ | refine blk_drew ?_ | refine blk_alloc ?_ _)); exact BK128.out)) : gb134 ≠ gb128)); clear BK128; clear HB; have BK128 := n0_; have HB := n1_; have BK134 := n2_; have GW134 := n3_; have GE134 := n4_; have NB128_134 := n5_; have NB134_128 := n6_; clear n0_ n1_ n2_ n3_ n4_ n5_ n6_; clear hb hbox hg; have hnb33 := NB134_128.out; have hnc33 := NB128_134.out; have hcz34_0 : w32.cell? ⟨gb134, 0, none⟩ = some (.int .i64 0) := (blk_cell BK134.out 0).trans rfl; have hcz34_1 : w32.cell? ⟨gb134, 1, none⟩ = some (.int .i64 0) := (blk_cell BK134.out 1).trans rfl; have hcz34_2 : w32.cell? ⟨gb134, 2, none⟩ = some (.int .i64 0) := (blk_cell BK134.out 2).trans rfl; have hcz34_3 : w32.cell? ⟨gb134, 3, none⟩ = some (.int .i64 0) := (blk_cell BK134.out 3).trans rfl; have hfz34_0 := blk_frozen BK134.out 0; have hfz34_1 := blk_frozen BK134.out 1; have hfz34_2 := blk_frozen BK134.out 2; have hfz34_3 := blk_frozen BK134.out 3; have hcz35_0 : w32.cell? ⟨gb128, 0, none⟩ = some (.int .i64 a0_0) := (blk_cell BK128.out 0).trans rfl; have hcz35_1 : w32.cell? ⟨gb128, 1, none⟩ = some (.int .i64 a0_1) := (blk_cell BK128.out 1).trans rfl; have hcz35_2 : w32.cell? ⟨gb128, 2, none⟩ = some (.int .i64 a0_2) := (blk_cell BK128.out 2).trans rfl; have hcz35_3 : w32.cell? ⟨gb128, 3, none⟩ = some (.slice (some ad132) l0_3.length c0_3) := (blk_cell BK128.out 3).trans rfl; have hfz35_0 := blk_frozen BK128.out 0; have hfz35_1 := blk_frozen BK128.out 1; have hfz35_2 := blk_frozen BK128.out 2; have hfz35_3 := blk_frozen BK128.out 3) | ((with_reducible refine gate_callee (f := 14) rfl ?_); refine goesL_ (some 79) rfl rfl Try.func14 (by kernel_rfl) rfl #[.agg #[.int .i64 a0_0, .int .i64 a0_1, .int .i64 a0_2, .slice (some ad132) l0_3.length c0_3], .agg #[.int .i64 ((rd_T35 (rd_L2 l0_3 x53_3) x70_4).f0), .int .i64 ((rd_T35 (rd_L2 l0_3 x53_3) x70_4).f1), .int .i64 ((rd_T35 (rd_L2 l0_3 x53_3) x70_4).f2), .int .i64 ((rd_T35 (rd_L2 l0_3 x53_3) x70_4).f3)], .int .i64 ((rd_L2 l0_3 x53_3).length : Int)] rfl (by (try simp only [List.map_toArray, List.map_cons, List.map_nil]); first | done | rfl | (simp only [List.length_drop, List.length_take]; rfl)) ?_; (with_reducible refine (prog_May.calls k4 a0_0 a0_1 a0_2 _ _ l0_3 ((rd_T35 (rd_L2 l0_3 x53_3) x70_4).f0) ((rd_T35 (rd_L2 l0_3 x53_3) x70_4).f1) ((rd_T35 (rd_L2 l0_3 x53_3) x70_4).f2) ((rd_T35 (rd_L2 l0_3 x53_3) x70_4).f3) ((rd_L2 l0_3 x53_3).length : Int) true _ ?side1 ?side2 A30.out).mono ?_); (case side1 => exact Kd.C_below HR0_3.out (by repeat (first | (with_reducible first | exact HB.out | apply below_alloc | apply pw_below_drewN | apply below_drew1 | refine below_set ?_ GE128.out | refine below_set ?_ GE134.out) | exact HB.out))); (case side2 => exact HC0_3.out); rintro e w36 ⟨rfl, hb⟩; refine ⟨_, rfl, ?_⟩; have n0_ := Aside0.mk (blk_below (g := gb128) (o := .cells #[.int .i64 a0_0, .int .i64 a0_1, .int .i64 a0_2, .slice (some ad132) l0_3.length c0_3] 24 (0, 0)) (by (with_reducible repeat (first | refine blk_drewN ?_ _ | refine blk_drew ?_ | refine blk_alloc ?_ _)); refine blk_far ?_ NB128_134.out _; (with_reducible repeat (first | refine blk_drewN ?_ _ | refine blk_drew ?_ | refine blk_alloc ?_ _)); refine blk_far ?_ NB128_134.out _; (with_reducible repeat (first | refine blk_drewN ?_ _ | refine blk_drew ?_ | refine blk_alloc ?_ _)); refine blk_far ?_ NB128_134.out _; (with_reducible repeat (first | refine blk_drewN ?_ _ | refine blk_drew ?_ | refine blk_alloc ?_ _)); refine blk_far ?_ NB128_134.out _; (with_reducible repeat (first | refine blk_drewN ?_ _ | refine blk_drew ?_ | refine blk_alloc ?_ _)); exact BK128.out) hb); have n1_ := Aside0.mk (blk_below (g := gb134) (o := .cells #[.int .i64 ((rd_T35 (rd_L2 l0_3 x53_3) x70_4).f0), .int .i64 ((rd_T35 (rd_L2 l0_3 x53_3) x70_4).f1), .int .i64 ((rd_T35 (rd_L2 l0_3 x53_3) x70_4).f2), .int .i64 ((rd_T35 (rd_L2 l0_3 x53_3) x70_4).f3)] 35 (0, 0)) (by (with_reducible repeat (first | refine blk_drewN ?_ _ | refine blk_drew ?_ | refine blk_alloc ?_ _)); refine blk_put (cs := #[.int .i64 ((rd_T35 (rd_L2 l0_3 x53_3) x70_4).f0), .int .i64 ((rd_T35 (rd_L2 l0_3 x53_3) x70_4).f1), .int .i64 ((rd_T35 (rd_L2 l0_3 x53_3) x70_4).f2), .int .i64 0]) ?_ 3 _ rfl; (with_reducible repeat (first | refine blk_drewN ?_ _ | refine blk_drew ?_ | refine blk_alloc ?_ _)); refine blk_put (cs := #[.int .i64 ((rd_T35 (rd_L2 l0_3 x53_3) x70_4).f0), .int .i64 ((rd_T35 (rd_L2 l0_3 x53_3) x70_4).f1), .int .i64 0, .int .i64 0]) ?_ 2 _ rfl; (with_reducible repeat (first | refine blk_drewN ?_ _ | refine blk_drew ?_ | refine blk_alloc ?_ _)); refine blk_put (cs := #[.int .i64 ((rd_T35 (rd_L2 l0_3 x53_3) x70_4).f0), .int .i64 0, .int .i64 0, .int .i64 0]) ?_ 1 _ rfl; (with_reducible repeat (first | refine blk_drewN ?_ _ | refine blk_drew ?_ | refine blk_alloc ?_ _)); refine blk_put (cs := #[.int .i64 0, .int .i64 0, .int .i64 0, .int .i64 0]) ?_ 0 _ rfl; (with_reducible repeat (first | refine blk_drewN ?_ _ | refine blk_drew ?_ | refine blk_alloc ?_ _)); exact BK134.out) hb); have n2_ := Aside0.mk (below_step (by repeat (first | (with_reducible first | exact HB.out | apply below_alloc | apply pw_below_drewN | apply below_drew1 | refine below_set ?_ GE128.out | refine below_set ?_ GE134.out) | exact HB.out)) hb); clear BK128; clear BK134; clear HB; have BK128 := n0_; have BK134 := n1_; have HB := n2_; clear n0_ n1_ n2_; (try clear hb); (try clear hb2); (try clear hk); (try clear hi)))
                                        go_roundg k4
                                        case measure => have := HJ1.out; have := HJ11.out; have := HK3.out; have := HK4.out; omega
                                        case rel => exact ⟨(wrap64 (x70_4 + 1)), (by first | rfl | (simp; done) | (simp [*]; done)), H', ⟨by have := HJ1.out; have := HJ11.out; have := HK3.out; have := HK4.out; omega⟩, ⟨by (with_reducible repeat (first | refine blk_drewN ?_ _ | refine blk_drew ?_ | refine blk_alloc ?_ _)); exact BK128.out⟩, ⟨by repeat (first | (with_reducible first | exact HB.out | apply below_alloc | apply pw_below_drewN | apply below_drew1 | refine below_set ?_ GE128.out | refine below_set ?_ GE134.out) | exact HB.out)⟩⟩
                                      · replace c31 := Bool.eq_false_iff.mpr c31
                                        subst c31
                                        have H1 : (some (x53_3, x70_4, 3)) = some (r1, r2, r3) := by rw [if_neg (show ¬ (false = true) by decide)] at H; exact H
                                        clear H
                                        have H := H1
                                        clear H1
                                        simp only [Option.some.injEq, Prod.mk.injEq] at H
                                        obtain ⟨rfl, rfl, rfl⟩ := H
                                        have p133 : 0 ≤ (x70_4 : Int) := of_decide_eq_true (by first | (with_reducible assumption) | assumption)
                                        have q133 : x70_4 < ((rd_L2 l0_3 x53_3).length : Int) := of_decide_eq_true (by first | (with_reducible assumption) | assumption)
                                        obtain ⟨ad133, e133, hx133_0, hx133_1, hx133_2, hx133_3⟩ := at_T35 HR132_0.out x70_4 p133 q133
                                        cases e133
                                        try replace hx133_0 := (HB.out.cell (World.block_lt_of_cell? w _ hx133_0)).trans hx133_0
                                        try replace hx133_1 := (HB.out.cell (World.block_lt_of_cell? w _ hx133_1)).trans hx133_1
                                        try replace hx133_2 := (HB.out.cell (World.block_lt_of_cell? w _ hx133_2)).trans hx133_2
                                        try replace hx133_3 := (HB.out.cell (World.block_lt_of_cell? w _ hx133_3)).trans hx133_3
                                        replace p133 := eq_true p133
                                        replace q133 := eq_true q133
                                        go_wp2_with (first | ((with_reducible refine gate_dst (N := 8) rfl ?_); (try (refine gate_guard (by rfl) ?_; dsimp only)); refine box_event ?hg (N := 8) ?hd (cs := #[.int .i64 0, .int .i64 0, .int .i64 0, .int .i64 0]) (t := 35) ?hr ?_; (case hd => rfl); (case hg => rfl); (case hr => first | (go_simp; done) | (go_simp; rfl)); intro gb134 hg w37 hbox hb; have n0_ := Aside0.mk (blk_below (g := gb128) (o := .cells #[.int .i64 a0_0, .int .i64 a0_1, .int .i64 a0_2, .slice (some ad132) l0_3.length c0_3] 24 (0, 0)) (by (with_reducible repeat (first | refine blk_drewN ?_ _ | refine blk_drew ?_ | refine blk_alloc ?_ _)); exact BK128.out) hb); have n1_ := Aside0.mk (below_step (by repeat (first | (with_reducible first | exact HB.out | apply below_alloc | apply pw_below_drewN | apply below_drew1 | refine below_set ?_ GE128.out) | exact HB.out)) hb); have n2_ := Aside0.mk (hbox); have n3_ := Aside0.mk ((by rw [hg]; exact (below_size (by repeat (first | (with_reducible first | exact HB.out | apply below_alloc | apply pw_below_drewN | apply below_drew1 | refine below_set ?_ GE128.out) | exact HB.out))) : w.heap.size ≤ gb134)); have n4_ := Aside0.mk ((by rw [hg]; exact (below_size (by repeat (first | (with_reducible first | exact HB.out | apply below_alloc | apply pw_below_drewN | apply below_drew1 | refine below_set ?_ GE128.out) | exact HB.out))) : w.heap.size ≤ gb134)); have n5_ := Aside0.mk ((by rw [hg]; exact Nat.ne_of_lt (blk_lt (g := gb128) (o := .cells #[.int .i64 a0_0, .int .i64 a0_1, .int .i64 a0_2, .slice (some ad132) l0_3.length c0_3] 24 (0, 0)) (by (with_reducible repeat (first | refine blk_drewN ?_ _ | refine blk_drew ?_ | refine blk_alloc ?_ _)); exact BK128.out)) : gb128 ≠ gb134)); have n6_ := Aside0.mk ((by rw [hg]; exact Nat.ne_of_gt (blk_lt (g := gb128) (o := .cells #[.int .i64 a0_0, .int .i64 a0_1, .int .i64 a0_2, .slice (some ad132) l0_3.length c0_3] 24 (0, 0)) (by (with_reducible repeat (first | refine blk_drewN ?_ _ | refine blk_drew ?_ | refine blk_alloc ?_ _)); exact BK128.out)) : gb134 ≠ gb128)); clear BK128; clear HB; have BK128 := n0_; have HB := n1_; have BK134 := n2_; have GW134 := n3_; have GE134 := n4_; have NB128_134 := n5_; have NB134_128 := n6_; clear n0_ n1_ n2_ n3_ n4_ n5_ n6_; clear hb hbox hg; have hnb38 := NB134_128.out; have hnc38 := NB128_134.out; have hcz39_0 : w37.cell? ⟨gb134, 0, none⟩ = some (.int .i64 0) := (blk_cell BK134.out 0).trans rfl; have hcz39_1 : w37.cell? ⟨gb134, 1, none⟩ = some (.int .i64 0) := (blk_cell BK134.out 1).trans rfl; have hcz39_2 : w37.cell? ⟨gb134, 2, none⟩ = some (.int .i64 0) := (blk_cell BK134.out 2).trans rfl; have hcz39_3 : w37.cell? ⟨gb134, 3, none⟩ = some (.int .i64 0) := (blk_cell BK134.out 3).trans rfl; have hfz39_0 := blk_frozen BK134.out 0; have hfz39_1 := blk_frozen BK134.out 1; have hfz39_2 := blk_frozen BK134.out 2; have hfz39_3 := blk_frozen BK134.out 3; have hcz40_0 : w37.cell? ⟨gb128, 0, none⟩ = some (.int .i64 a0_0) := (blk_cell BK128.out 0).trans rfl; have hcz40_1 : w37.cell? ⟨gb128, 1, none⟩ = some (.int .i64 a0_1) := (blk_cell BK128.out 1).trans rfl; have hcz40_2 : w37.cell? ⟨gb128, 2, none⟩ = some (.int .i64 a0_2) := (blk_cell BK128.out 2).trans rfl; have hcz40_3 : w37.cell? ⟨gb128, 3, none⟩ = some (.slice (some ad132) l0_3.length c0_3) := (blk_cell BK128.out 3).trans rfl; have hfz40_0 := blk_frozen BK128.out 0; have hfz40_1 := blk_frozen BK128.out 1; have hfz40_2 := blk_frozen BK128.out 2; have hfz40_3 := blk_frozen BK128.out 3) | ((with_reducible refine gate_callee (f := 14) rfl ?_); refine goesL_ (some 79) rfl rfl Try.func14 (by kernel_rfl) rfl #[.agg #[.int .i64 a0_0, .int .i64 a0_1, .int .i64 a0_2, .slice (some ad132) l0_3.length c0_3], .agg #[.int .i64 ((rd_T35 (rd_L2 l0_3 x53_3) x70_4).f0), .int .i64 ((rd_T35 (rd_L2 l0_3 x53_3) x70_4).f1), .int .i64 ((rd_T35 (rd_L2 l0_3 x53_3) x70_4).f2), .int .i64 ((rd_T35 (rd_L2 l0_3 x53_3) x70_4).f3)], .int .i64 ((rd_L2 l0_3 x53_3).length : Int)] rfl (by (try simp only [List.map_toArray, List.map_cons, List.map_nil]); first | done | rfl | (simp only [List.length_drop, List.length_take]; rfl)) ?_; (with_reducible refine (prog_May.calls k4 a0_0 a0_1 a0_2 _ _ l0_3 ((rd_T35 (rd_L2 l0_3 x53_3) x70_4).f0) ((rd_T35 (rd_L2 l0_3 x53_3) x70_4).f1) ((rd_T35 (rd_L2 l0_3 x53_3) x70_4).f2) ((rd_T35 (rd_L2 l0_3 x53_3) x70_4).f3) ((rd_L2 l0_3 x53_3).length : Int) false _ ?side1 ?side2 A30.out).mono ?_); (case side1 => exact Kd.C_below HR0_3.out (by repeat (first | (with_reducible first | exact HB.out | apply below_alloc | apply pw_below_drewN | apply below_drew1 | refine below_set ?_ GE128.out | refine below_set ?_ GE134.out) | exact HB.out))); (case side2 => exact HC0_3.out); rintro e w41 ⟨rfl, hb⟩; refine ⟨_, rfl, ?_⟩; have n0_ := Aside0.mk (blk_below (g := gb128) (o := .cells #[.int .i64 a0_0, .int .i64 a0_1, .int .i64 a0_2, .slice (some ad132) l0_3.length c0_3] 24 (0, 0)) (by (with_reducible repeat (first | refine blk_drewN ?_ _ | refine blk_drew ?_ | refine blk_alloc ?_ _)); refine blk_far ?_ NB128_134.out _; (with_reducible repeat (first | refine blk_drewN ?_ _ | refine blk_drew ?_ | refine blk_alloc ?_ _)); refine blk_far ?_ NB128_134.out _; (with_reducible repeat (first | refine blk_drewN ?_ _ | refine blk_drew ?_ | refine blk_alloc ?_ _)); refine blk_far ?_ NB128_134.out _; (with_reducible repeat (first | refine blk_drewN ?_ _ | refine blk_drew ?_ | refine blk_alloc ?_ _)); refine blk_far ?_ NB128_134.out _; (with_reducible repeat (first | refine blk_drewN ?_ _ | refine blk_drew ?_ | refine blk_alloc ?_ _)); exact BK128.out) hb); have n1_ := Aside0.mk (blk_below (g := gb134) (o := .cells #[.int .i64 ((rd_T35 (rd_L2 l0_3 x53_3) x70_4).f0), .int .i64 ((rd_T35 (rd_L2 l0_3 x53_3) x70_4).f1), .int .i64 ((rd_T35 (rd_L2 l0_3 x53_3) x70_4).f2), .int .i64 ((rd_T35 (rd_L2 l0_3 x53_3) x70_4).f3)] 35 (0, 0)) (by (with_reducible repeat (first | refine blk_drewN ?_ _ | refine blk_drew ?_ | refine blk_alloc ?_ _)); refine blk_put (cs := #[.int .i64 ((rd_T35 (rd_L2 l0_3 x53_3) x70_4).f0), .int .i64 ((rd_T35 (rd_L2 l0_3 x53_3) x70_4).f1), .int .i64 ((rd_T35 (rd_L2 l0_3 x53_3) x70_4).f2), .int .i64 0]) ?_ 3 _ rfl; (with_reducible repeat (first | refine blk_drewN ?_ _ | refine blk_drew ?_ | refine blk_alloc ?_ _)); refine blk_put (cs := #[.int .i64 ((rd_T35 (rd_L2 l0_3 x53_3) x70_4).f0), .int .i64 ((rd_T35 (rd_L2 l0_3 x53_3) x70_4).f1), .int .i64 0, .int .i64 0]) ?_ 2 _ rfl; (with_reducible repeat (first | refine blk_drewN ?_ _ | refine blk_drew ?_ | refine blk_alloc ?_ _)); refine blk_put (cs := #[.int .i64 ((rd_T35 (rd_L2 l0_3 x53_3) x70_4).f0), .int .i64 0, .int .i64 0, .int .i64 0]) ?_ 1 _ rfl; (with_reducible repeat (first | refine blk_drewN ?_ _ | refine blk_drew ?_ | refine blk_alloc ?_ _)); refine blk_put (cs := #[.int .i64 0, .int .i64 0, .int .i64 0, .int .i64 0]) ?_ 0 _ rfl; (with_reducible repeat (first | refine blk_drewN ?_ _ | refine blk_drew ?_ | refine blk_alloc ?_ _)); exact BK134.out) hb); have n2_ := Aside0.mk (below_step (by repeat (first | (with_reducible first | exact HB.out | apply below_alloc | apply pw_below_drewN | apply below_drew1 | refine below_set ?_ GE128.out | refine below_set ?_ GE134.out) | exact HB.out)) hb); clear BK128; clear BK134; clear HB; have BK128 := n0_; have BK134 := n1_; have HB := n2_; clear n0_ n1_ n2_; (try clear hb); (try clear hb2); (try clear hk); (try clear hi)))
                                        go_ret3
                                        exact ⟨by first | rfl | (simp [errW_none, errW_some] <;> rfl) | (simp [*, errW_none, errW_some] <;> rfl), by repeat (first | (with_reducible first | exact HB.out | apply below_alloc | apply pw_below_drewN | apply below_drew1 | refine below_set ?_ GE128.out | refine below_set ?_ GE134.out) | exact HB.out)⟩
                                    · rw [if_neg c29] at H
                                      exact absurd H (by simp)
                                  · rw [if_neg c28] at H
                                    exact absurd H (by simp)
                                · rw [if_neg c27] at H
                                  have c27b0 : decide (x70_4 < ((rd_L2 l0_3 x53_3).length : Int)) = false := decide_eq_false c27
                                  clear c27
                                  have H' := Aside0.mk H
                                  clear H
                                  go_wp2
                                  go_roundg k4
                                  case measure => have := HJ1.out; have := HJ11.out; have := HK3.out; have := HK4.out; omega
                                  case rel => exact ⟨(wrap64 (x53_3 + 1)), (by first | rfl | (simp; done) | (simp [*]; done)), H', ⟨by have := HJ1.out; have := HJ11.out; have := HK3.out; have := HK4.out; omega⟩, ⟨by (with_reducible repeat (first | refine blk_drewN ?_ _ | refine blk_drew ?_ | refine blk_alloc ?_ _)); exact BK128.out⟩, ⟨by repeat (first | (with_reducible first | exact HB.out | apply below_alloc | apply pw_below_drewN | apply below_drew1 | refine below_set ?_ GE128.out) | exact HB.out)⟩⟩
                      · rw [if_neg c24] at H
                        exact absurd H (by simp)
                    · rw [if_neg c23] at H
                      exact absurd H (by simp)
                  · rw [if_neg c22] at H
                    have c22b0 : decide (x53_3 < (l0_3.length : Int)) = false := decide_eq_false c22
                    clear c22
                    replace H := Option.bind_eq_some_iff.mp H
                    obtain ⟨⟨t129, t130, t131⟩, A420, H⟩ := H
                    replace H : (if t131 = true then (some (t129, t130, 8)) else (some (0, 0, 0))) = some (r1, r2, r3) := H
                    have A42 := Aside0.mk A420
                    clear A420
                    by_cases c43 : t131 = true
                    · subst c43
                      have H1 : (some (t129, t130, 8)) = some (r1, r2, r3) := by rw [if_pos rfl] at H; exact H
                      clear H
                      have H := H1
                      clear H1
                      simp only [Option.some.injEq, Prod.mk.injEq] at H
                      obtain ⟨rfl, rfl, rfl⟩ := H
                      have hcz44_0 : wr.cell? ⟨gb128, 0, none⟩ = some (.int .i64 a0_0) := (blk_cell BK128.out 0).trans rfl
                      have hcz44_1 : wr.cell? ⟨gb128, 1, none⟩ = some (.int .i64 a0_1) := (blk_cell BK128.out 1).trans rfl
                      have hcz44_2 : wr.cell? ⟨gb128, 2, none⟩ = some (.int .i64 a0_2) := (blk_cell BK128.out 2).trans rfl
                      have hcz44_3 : wr.cell? ⟨gb128, 3, none⟩ = some (.slice A0_3 l0_3.length c0_3) := (blk_cell BK128.out 3).trans rfl
                      have hfz44_0 := blk_frozen BK128.out 0
                      have hfz44_1 := blk_frozen BK128.out 1
                      have hfz44_2 := blk_frozen BK128.out 2
                      have hfz44_3 := blk_frozen BK128.out 3
                      go_wp2_with (first | ((with_reducible refine gate_callee (f := 20) rfl ?_); refine goesL_ (some 87) rfl rfl Try.func20 (by kernel_rfl) rfl #[.agg #[.int .i64 a0_0, .int .i64 a0_1, .int .i64 a0_2, .slice A0_3 l0_3.length c0_3]] rfl (by (try simp only [List.map_toArray, List.map_cons, List.map_nil]); first | done | rfl | (simp only [List.length_drop, List.length_take]; rfl)) ?_; (with_reducible refine (prog_round.calls k3 a0_0 a0_1 a0_2 _ _ l0_3 t129 t130 true _ ?side1 ?side2 A42.out).mono ?_); (case side1 => repeat (first | exact (Kd.C_below HR0_3.out HB.out) | (with_reducible refine Kd.C_alloc ?_ _) | (with_reducible refine Kd.C_drewN ?_ _) | (with_reducible refine Kd.C_drew ?_))); (case side2 => exact HC0_3.out); rintro e w45 ⟨rfl, hb⟩; refine ⟨_, rfl, ?_⟩; have n0_ := Aside0.mk (blk_below (g := gb128) (o := .cells #[.int .i64 a0_0, .int .i64 a0_1, .int .i64 a0_2, .slice A0_3 l0_3.length c0_3] 24 (0, 0)) (by (with_reducible repeat (first | refine blk_drewN ?_ _ | refine blk_drew ?_ | refine blk_alloc ?_ _)); exact BK128.out) hb); have n1_ := Aside0.mk (below_step (by repeat (first | (with_reducible first | exact HB.out | apply below_alloc | apply pw_below_drewN | apply below_drew1 | refine below_set ?_ GE128.out) | exact HB.out)) hb); clear BK128; clear HB; have BK128 := n0_; have HB := n1_; clear n0_ n1_; (try clear hb); (try clear hb2); (try clear hk); (try clear hi)))
                      go_ret3
                      exact ⟨by first | rfl | (simp [errW_none, errW_some] <;> rfl) | (simp [*, errW_none, errW_some] <;> rfl), by repeat (first | (with_reducible first | exact HB.out | apply below_alloc | apply pw_below_drewN | apply below_drew1 | refine below_set ?_ GE128.out) | exact HB.out)⟩
                    · replace c43 := Bool.eq_false_iff.mpr c43
                      subst c43
                      have H1 : (some (0, 0, 0)) = some (r1, r2, r3) := by rw [if_neg (show ¬ (false = true) by decide)] at H; exact H
                      clear H
                      have H := H1
                      clear H1
                      simp only [Option.some.injEq, Prod.mk.injEq] at H
                      obtain ⟨rfl, rfl, rfl⟩ := H
                      have hcz46_0 : wr.cell? ⟨gb128, 0, none⟩ = some (.int .i64 a0_0) := (blk_cell BK128.out 0).trans rfl
                      have hcz46_1 : wr.cell? ⟨gb128, 1, none⟩ = some (.int .i64 a0_1) := (blk_cell BK128.out 1).trans rfl
                      have hcz46_2 : wr.cell? ⟨gb128, 2, none⟩ = some (.int .i64 a0_2) := (blk_cell BK128.out 2).trans rfl
                      have hcz46_3 : wr.cell? ⟨gb128, 3, none⟩ = some (.slice A0_3 l0_3.length c0_3) := (blk_cell BK128.out 3).trans rfl
                      have hfz46_0 := blk_frozen BK128.out 0
                      have hfz46_1 := blk_frozen BK128.out 1
                      have hfz46_2 := blk_frozen BK128.out 2
                      have hfz46_3 := blk_frozen BK128.out 3
                      go_wp2_with (first | ((with_reducible refine gate_callee (f := 20) rfl ?_); refine goesL_ (some 87) rfl rfl Try.func20 (by kernel_rfl) rfl #[.agg #[.int .i64 a0_0, .int .i64 a0_1, .int .i64 a0_2, .slice A0_3 l0_3.length c0_3]] rfl (by (try simp only [List.map_toArray, List.map_cons, List.map_nil]); first | done | rfl | (simp only [List.length_drop, List.length_take]; rfl)) ?_; (with_reducible refine (prog_round.calls k3 a0_0 a0_1 a0_2 _ _ l0_3 t129 t130 false _ ?side1 ?side2 A42.out).mono ?_); (case side1 => repeat (first | exact (Kd.C_below HR0_3.out HB.out) | (with_reducible refine Kd.C_alloc ?_ _) | (with_reducible refine Kd.C_drewN ?_ _) | (with_reducible refine Kd.C_drew ?_))); (case side2 => exact HC0_3.out); rintro e w47 ⟨rfl, hb⟩; refine ⟨_, rfl, ?_⟩; have n0_ := Aside0.mk (blk_below (g := gb128) (o := .cells #[.int .i64 a0_0, .int .i64 a0_1, .int .i64 a0_2, .slice A0_3 l0_3.length c0_3] 24 (0, 0)) (by (with_reducible repeat (first | refine blk_drewN ?_ _ | refine blk_drew ?_ | refine blk_alloc ?_ _)); exact BK128.out) hb); have n1_ := Aside0.mk (below_step (by repeat (first | (with_reducible first | exact HB.out | apply below_alloc | apply pw_below_drewN | apply below_drew1 | refine below_set ?_ GE128.out) | exact HB.out)) hb); clear BK128; clear HB; have BK128 := n0_; have HB := n1_; clear n0_ n1_; (try clear hb); (try clear hb2); (try clear hk); (try clear hi)))
                      go_ret3
                      exact ⟨by first | rfl | (simp [errW_none, errW_some] <;> rfl) | (simp [*, errW_none, errW_some] <;> rfl), by repeat (first | (with_reducible first | exact HB.out | apply below_alloc | apply pw_below_drewN | apply below_drew1 | refine below_set ?_ GE128.out) | exact HB.out)⟩

end Go.Proofs.Ytpbbkfekibmaiaa.Q
