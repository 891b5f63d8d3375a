-- Written by this session's wip/myprint.sh (a variant of the kit's printer); Lean checks it. -- squeezed
import Derived.Test.YtpbbkfekibmaiaaDoorQx0
namespace Go.Proofs.YtpbbkfekibmaiaaDoor.Q
open Go.RowKit Go.Proofs.YtpbbkfekibmaiaaDoorW.PrintWords Go.Proofs.YtpbbkfekibmaiaaDoorW.PrintLast Go.Proofs.YtpbbkfekibmaiaaDoorW.PrintMore
attribute [local go_sem] max2_int min2_int max_two min_two max_three min_three max_four min_four   -- for this text's walks alone
set_option linter.unusedVariables false
set_option linter.unusedSimpArgs false

/-! ### alibiref15_Few: function 11 -/
def alibiref15_Few.l0 : Nat → List (S46) → Int → Option (Bool)
 | 0, _, _ => none
 | k + 1, x0, x3 => if x3 < (x0.length : Int) then (if 0 ≤ x3 then (if (((rd_T46 x0 x3).f2).length : Int) > 100 then (some false) else (if (((rd_T46 x0 x3).f5).length : Int) > 100 then (some false) else (alibiref15_Few.l0 k x0 (wrap64 (x3 + 1))))) else (none)) else (some true)
def alibiref15_Few.f (k : Nat) (l0 : List (S46)) : Option (Bool) := if (l0.length : Int) > 40 then (some false) else (alibiref15_Few.l0 k l0 0)
theorem alibiref15_Few.mono_l : ∀ k, (∀ y0 y1, LeO (alibiref15_Few.l0 k y0 y1) (alibiref15_Few.l0 (k + 1) y0 y1))
 | 0 => fun _ _ r h => by simp [alibiref15_Few.l0] at h
 | k + 1 => by
  have ih0 := alibiref15_Few.mono_l k
  ·intro y0 y1
   unfold alibiref15_Few.l0
   repeat' first
   | (with_reducible exact ih0 _ _)
   | (with_reducible exact LeO.refl _)
   | (with_reducible exact LeO.none _)
   | (with_reducible refine LeO.ite ?_ ?_)
   | (with_reducible refine LeO.bind ?_ (fun _ => ?_))
   | exact ih0 _ _
   | exact LeO.none _
   | refine LeO.ite ?_ ?_
   | refine LeO.bind ?_ (fun _ => ?_)
theorem alibiref15_Few.mono : ∀ a0 k, LeO (alibiref15_Few.f k a0) (alibiref15_Few.f (k + 1) a0) := by
 intro a0 k
 have ih0 := alibiref15_Few.mono_l k
 unfold alibiref15_Few.f
 repeat' first
   | (with_reducible exact ih0 _ _)
   | (with_reducible exact LeO.refl _)
   | (with_reducible exact LeO.none _)
   | (with_reducible refine LeO.ite ?_ ?_)
   | (with_reducible refine LeO.bind ?_ (fun _ => ?_))
   | exact ih0 _ _
   | exact LeO.none _
   | refine LeO.ite ?_ ?_
   | refine LeO.bind ?_ (fun _ => ?_)
set_option maxHeartbeats 8000000 in
set_option maxRecDepth 100000 in
theorem alibiref15_Few.calls (k : Nat) (A0 : Option Addr) (c0 : Nat) (l0 : List (S46)) (r : Bool) (w : World) (hr0 : Kd.C k46 w A0 l0.length l0) (hc0 : l0.length ≤ c0) (h : alibiref15_Few.f k l0 = some r) :
  Calls Tryd.prog 11 #[.slice A0 l0.length c0] w fun e w' => e = .returned (.bool r) ∧ Drawn0 w w' := by
 have HR0 := Aside0.mk hr0
 have HC0 := Aside0.mk hc0
 clear hr0 hc0
 have H : (if (l0.length : Int) > 40 then (some false) else (alibiref15_Few.l0 k l0 0)) = some r := h
 clear h
 by_cases c2 : (l0.length : Int) > 40
 ·rw [if_pos c2] at H
  have c2b0 : decide (40 < (l0.length : Int)) = true := decide_eq_true c2
  have c2b1 : decide (40 < l0.length) = true := decide_eq_true (by omega)
  clear c2
  obtain rfl := Option.some.inj H
  go_enter Tryd.func11, Tryd.ntmps11
  go_wp2
  go_ret
  exact ⟨by first | rfl | (simp; done) | (simp [*]; done), by repeat (first | exact Drawn0.refl _ | apply Drawn0.step)⟩
 ·rw [if_neg c2] at H
  have c2b0 : decide (40 < (l0.length : Int)) = false := decide_eq_false c2
  have c2b1 : decide (40 < l0.length) = false := decide_eq_false (by omega)
  clear c2
  have H' := Aside0.mk H
  clear H
  go_enter Tryd.func11, Tryd.ntmps11
  go_wp2
  go_loopg [3] k (fun kq v3 w' => ∃ (x3_1 : Int), v3 = .int .i64 x3_1 ∧ Aside0 (alibiref15_Few.l0 kq l0 x3_1 = some r) ∧ Aside0 (kq ≤ k) ∧ Drawn0 w w')
  case atStart => exact ⟨(0), (by first | rfl | (simp; done) | (simp [*]; done)), H', ⟨Nat.le_refl _⟩, by repeat (first | exact Drawn0.refl _ | apply Drawn0.step)⟩
  case round =>
   clear H'
   try clear c1
   try clear c2
   try clear c2b0
   try clear c2b1
   try clear p2
   obtain ⟨x3_1, rfl, HA, HK1, ⟨m1, rfl⟩⟩ := hrel
   cases gk with
   | zero => exact absurd HA.out (by simp [alibiref15_Few.l0])
   | succ k1 =>
    have H := HA.out
    clear HA
    simp only [alibiref15_Few.l0] at H
    by_cases c3 : x3_1 < (l0.length : Int)
    ·rw [if_pos c3] at H
     have c3b0 : decide (x3_1 < (l0.length : Int)) = true := decide_eq_true c3
     clear c3
     by_cases c4 : 0 ≤ x3_1
     ·rw [if_pos c4] at H
      have c4b0 : decide (0 ≤ x3_1) = true := decide_eq_true c4
      clear c4
      by_cases c5 : (((rd_T46 l0 x3_1).f2).length : Int) > 100
      ·rw [if_pos c5] at H
       have c5b0 : decide (100 < (((rd_T46 l0 x3_1).f2).length : Int)) = true := decide_eq_true c5
       have c5b1 : decide (100 < ((rd_T46 l0 x3_1).f2).length) = true := decide_eq_true (by omega)
       clear c5
       obtain rfl := Option.some.inj H
       have p169 : 0 ≤ (x3_1 : Int) := of_decide_eq_true (by first | (with_reducible assumption) | assumption)
       have q169 : x3_1 < (l0.length : Int) := of_decide_eq_true (by first | (with_reducible assumption) | assumption)
       obtain ⟨ad169, A169_2, c169_2, A169_5, c169_5, e169, hx169_0, hx169_1, hx169_2, hx169_3, hx169_4, hx169_5, hl169_2, hi169_2, hl169_5, hi169_5⟩ := at_T46 HR0.out x3_1 p169 q169
       cases e169
       have HR169_2 := Aside0.mk hi169_2
       have HC169_2 := Aside0.mk hl169_2
       clear hi169_2 hl169_2
       have HR169_5 := Aside0.mk hi169_5
       have HC169_5 := Aside0.mk hl169_5
       clear hi169_5 hl169_5
       replace p169 := eq_true p169
       replace q169 := eq_true q169
       go_wp2
       go_ret
       exact ⟨by first | rfl | (simp; done) | (simp [*]; done), by repeat (first | exact Drawn0.refl _ | apply Drawn0.step)⟩
      ·rw [if_neg c5] at H
       have c5b0 : decide (100 < (((rd_T46 l0 x3_1).f2).length : Int)) = false := decide_eq_false c5
       have c5b1 : decide (100 < ((rd_T46 l0 x3_1).f2).length) = false := decide_eq_false (by omega)
       clear c5
       by_cases c6 : (((rd_T46 l0 x3_1).f5).length : Int) > 100
       ·rw [if_pos c6] at H
        have c6b0 : decide (100 < (((rd_T46 l0 x3_1).f5).length : Int)) = true := decide_eq_true c6
        have c6b1 : decide (100 < ((rd_T46 l0 x3_1).f5).length) = true := decide_eq_true (by omega)
        clear c6
        obtain rfl := Option.some.inj H
        have p169 : 0 ≤ (x3_1 : Int) := of_decide_eq_true (by first | (with_reducible assumption) | assumption)
        have q169 : x3_1 < (l0.length : Int) := of_decide_eq_true (by first | (with_reducible assumption) | assumption)
        obtain ⟨ad169, A169_2, c169_2, A169_5, c169_5, e169, hx169_0, hx169_1, hx169_2, hx169_3, hx169_4, hx169_5, hl169_2, hi169_2, hl169_5, hi169_5⟩ := at_T46 HR0.out x3_1 p169 q169
        cases e169
        have HR169_2 := Aside0.mk hi169_2
        have HC169_2 := Aside0.mk hl169_2
        clear hi169_2 hl169_2
        have HR169_5 := Aside0.mk hi169_5
        have HC169_5 := Aside0.mk hl169_5
        clear hi169_5 hl169_5
        replace p169 := eq_true p169
        replace q169 := eq_true q169
        have p170 : 0 ≤ (x3_1 : Int) := of_decide_eq_true (by first | (with_reducible assumption) | assumption)
        have q170 : x3_1 < (l0.length : Int) := of_decide_eq_true (by first | (with_reducible assumption) | assumption)
        obtain ⟨ad170, A170_2, c170_2, A170_5, c170_5, e170, hx170_0, hx170_1, hx170_2, hx170_3, hx170_4, hx170_5, hl170_2, hi170_2, hl170_5, hi170_5⟩ := at_T46 HR0.out x3_1 p170 q170
        obtain rfl : ad169 = ad170 := (by injection e170)
        have HR170_2 := Aside0.mk hi170_2
        have HC170_2 := Aside0.mk hl170_2
        clear hi170_2 hl170_2
        have HR170_5 := Aside0.mk hi170_5
        have HC170_5 := Aside0.mk hl170_5
        clear hi170_5 hl170_5
        replace p170 := eq_true p170
        replace q170 := eq_true q170
        have ea_ := Option.some.inj (hx169_2.symm.trans hx170_2)
        injection ea_ with ea_ en_ ec_
        subst ea_
        subst ec_
        clear en_
        have ea_ := Option.some.inj (hx169_5.symm.trans hx170_5)
        injection ea_ with ea_ en_ ec_
        subst ea_
        subst ec_
        clear en_
        go_wp2
        go_ret
        exact ⟨by first | rfl | (simp; done) | (simp [*]; done), by repeat (first | exact Drawn0.refl _ | apply Drawn0.step)⟩
       ·rw [if_neg c6] at H
        have c6b0 : decide (100 < (((rd_T46 l0 x3_1).f5).length : Int)) = false := decide_eq_false c6
        have c6b1 : decide (100 < ((rd_T46 l0 x3_1).f5).length) = false := decide_eq_false (by omega)
        clear c6
        have H' := Aside0.mk H
        clear H
        have p169 : 0 ≤ (x3_1 : Int) := of_decide_eq_true (by first | (with_reducible assumption) | assumption)
        have q169 : x3_1 < (l0.length : Int) := of_decide_eq_true (by first | (with_reducible assumption) | assumption)
        obtain ⟨ad169, A169_2, c169_2, A169_5, c169_5, e169, hx169_0, hx169_1, hx169_2, hx169_3, hx169_4, hx169_5, hl169_2, hi169_2, hl169_5, hi169_5⟩ := at_T46 HR0.out x3_1 p169 q169
        cases e169
        have HR169_2 := Aside0.mk hi169_2
        have HC169_2 := Aside0.mk hl169_2
        clear hi169_2 hl169_2
        have HR169_5 := Aside0.mk hi169_5
        have HC169_5 := Aside0.mk hl169_5
        clear hi169_5 hl169_5
        replace p169 := eq_true p169
        replace q169 := eq_true q169
        have p170 : 0 ≤ (x3_1 : Int) := of_decide_eq_true (by first | (with_reducible assumption) | assumption)
        have q170 : x3_1 < (l0.length : Int) := of_decide_eq_true (by first | (with_reducible assumption) | assumption)
        obtain ⟨ad170, A170_2, c170_2, A170_5, c170_5, e170, hx170_0, hx170_1, hx170_2, hx170_3, hx170_4, hx170_5, hl170_2, hi170_2, hl170_5, hi170_5⟩ := at_T46 HR0.out x3_1 p170 q170
        obtain rfl : ad169 = ad170 := (by injection e170)
        have HR170_2 := Aside0.mk hi170_2
        have HC170_2 := Aside0.mk hl170_2
        clear hi170_2 hl170_2
        have HR170_5 := Aside0.mk hi170_5
        have HC170_5 := Aside0.mk hl170_5
        clear hi170_5 hl170_5
        replace p170 := eq_true p170
        replace q170 := eq_true q170
        have ea_ := Option.some.inj (hx169_2.symm.trans hx170_2)
        injection ea_ with ea_ en_ ec_
        subst ea_
        subst ec_
        clear en_
        have ea_ := Option.some.inj (hx169_5.symm.trans hx170_5)
        injection ea_ with ea_ en_ ec_
        subst ea_
        subst ec_
        clear en_
        go_wp2
        go_roundg k1
        case measure => have := HK1.out; omega
        case rel => exact ⟨(wrap64 (x3_1 + 1)), (by first | rfl | (simp; done) | (simp [*]; done)), H', ⟨by have := HK1.out; omega⟩, by repeat (first | exact Drawn0.refl _ | apply Drawn0.step)⟩
     ·rw [if_neg c4] at H
      exact absurd H (by simp)
    ·rw [if_neg c3] at H
     have c3b0 : decide (x3_1 < (l0.length : Int)) = false := decide_eq_false c3
     clear c3
     obtain rfl := Option.some.inj H
     go_wp2
     go_ret
     exact ⟨by first | rfl | (simp; done) | (simp [*]; done), by repeat (first | exact Drawn0.refl _ | apply Drawn0.step)⟩

/-! ### alibiref03_Mask: function 18 -/
mutual
def alibiref03_Mask.l0 : Nat → List Int → Int → Int → Option (Int)
 | 0, _, _, _ => none
 | k + 1, x0, x3, x4 => if x4 < (x0.length : Int) then (alibiref03_Mask.l1 k x0 x3 x4 1 0) else (some ((x3) % 4294967296))
def alibiref03_Mask.l1 : Nat → List Int → Int → Int → Int → Int → Option (Int)
 | 0, _, _, _, _, _ => none
 | k + 1, x0, x3, x4, x5, x6 => if 0 ≤ x4 then (if x4 < (x0.length : Int) then (if x6 < (rd x0 x4) then (alibiref03_Mask.l1 k x0 x3 x4 (IntKind.u64.wrap (x5 * 2)) (wrap64 (x6 + 1))) else (alibiref03_Mask.l0 k x0 (IntKind.u64.wrap (x3 + x5)) (wrap64 (x4 + 1)))) else (none)) else (none)
end
def alibiref03_Mask.f (k : Nat) (l0 : List Int) : Option (Int) := alibiref03_Mask.l0 k l0 0 0
theorem alibiref03_Mask.mono_l : ∀ k, (∀ y0 y1 y2, LeO (alibiref03_Mask.l0 k y0 y1 y2) (alibiref03_Mask.l0 (k + 1) y0 y1 y2)) ∧ (∀ y0 y1 y2 y3 y4, LeO (alibiref03_Mask.l1 k y0 y1 y2 y3 y4) (alibiref03_Mask.l1 (k + 1) y0 y1 y2 y3 y4))
 | 0 => ⟨fun _ _ _ r h => by simp [alibiref03_Mask.l0] at h, fun _ _ _ _ _ r h => by simp [alibiref03_Mask.l1] at h⟩
 | k + 1 => by
  obtain ⟨ih0, ih1⟩ := alibiref03_Mask.mono_l k
  refine ⟨?_, ?_⟩
  ·intro y0 y1 y2
   unfold alibiref03_Mask.l0
   repeat' first
   | (with_reducible exact ih0 _ _ _)
   | (with_reducible exact ih1 _ _ _ _ _)
   | (with_reducible exact LeO.refl _)
   | (with_reducible exact LeO.none _)
   | (with_reducible refine LeO.ite ?_ ?_)
   | (with_reducible refine LeO.bind ?_ (fun _ => ?_))
   | exact ih0 _ _ _
   | exact ih1 _ _ _ _ _
   | exact LeO.none _
   | refine LeO.ite ?_ ?_
   | refine LeO.bind ?_ (fun _ => ?_)
  ·intro y0 y1 y2 y3 y4
   unfold alibiref03_Mask.l1
   repeat' first
   | (with_reducible exact ih0 _ _ _)
   | (with_reducible exact ih1 _ _ _ _ _)
   | (with_reducible exact LeO.refl _)
   | (with_reducible exact LeO.none _)
   | (with_reducible refine LeO.ite ?_ ?_)
   | (with_reducible refine LeO.bind ?_ (fun _ => ?_))
   | exact ih0 _ _ _
   | exact ih1 _ _ _ _ _
   | exact LeO.none _
   | refine LeO.ite ?_ ?_
   | refine LeO.bind ?_ (fun _ => ?_)
theorem alibiref03_Mask.mono : ∀ a0 k, LeO (alibiref03_Mask.f k a0) (alibiref03_Mask.f (k + 1) a0) := by
 intro a0 k
 obtain ⟨ih0, ih1⟩ := alibiref03_Mask.mono_l k
 unfold alibiref03_Mask.f
 repeat' first
   | (with_reducible exact ih0 _ _ _)
   | (with_reducible exact ih1 _ _ _ _ _)
   | (with_reducible exact LeO.refl _)
   | (with_reducible exact LeO.none _)
   | (with_reducible refine LeO.ite ?_ ?_)
   | (with_reducible refine LeO.bind ?_ (fun _ => ?_))
   | exact ih0 _ _ _
   | exact ih1 _ _ _ _ _
   | exact LeO.none _
   | refine LeO.ite ?_ ?_
   | refine LeO.bind ?_ (fun _ => ?_)
set_option maxHeartbeats 8000000 in
set_option maxRecDepth 100000 in
theorem alibiref03_Mask.calls (k : Nat) (A0 : Option Addr) (c0 : Nat) (l0 : List Int) (r : Int) (w : World) (hr0 : Kd.C (Kd.int .i64) w A0 l0.length l0) (hc0 : l0.length ≤ c0) (h : alibiref03_Mask.f k l0 = some r) :
  Calls Tryd.prog 18 #[.slice A0 l0.length c0] w fun e w' => e = .returned (.int .u32 r) ∧ Drawn0 w w' := by
 have HR0 := Aside0.mk hr0
 have HC0 := Aside0.mk hc0
 clear hr0 hc0
 have H : (alibiref03_Mask.l0 k l0 0 0) = some r := h
 clear h
 have H' := Aside0.mk H
 clear H
 go_enter Tryd.func18, Tryd.ntmps18
 go_wp2
 go_loopg [3, 4] k (fun kq v3 v4 w' => ∃ (x3_1 : Int) (x4_1 : Int), v3 = .int .u64 x3_1 ∧ v4 = .int .i64 x4_1 ∧ Aside0 (alibiref03_Mask.l0 kq l0 x3_1 x4_1 = some r) ∧ Aside0 (kq ≤ k) ∧ Drawn0 w w')
 case atStart => exact ⟨(0), (0), (by first | rfl | (simp; done) | (simp [*]; done)), (by first | rfl | (simp; done) | (simp [*]; done)), H', ⟨Nat.le_refl _⟩, by repeat (first | exact Drawn0.refl _ | apply Drawn0.step)⟩
 case round =>
  clear H'
  try clear c1
  obtain ⟨x3_1, x4_1, rfl, rfl, HA, HK1, ⟨m1, rfl⟩⟩ := hrel
  cases gk with
  | zero => exact absurd HA.out (by simp [alibiref03_Mask.l0])
  | succ k1 =>
   have H := HA.out
   clear HA
   simp only [alibiref03_Mask.l0] at H
   by_cases c2 : x4_1 < (l0.length : Int)
   ·rw [if_pos c2] at H
    have c2b0 : decide (x4_1 < (l0.length : Int)) = true := decide_eq_true c2
    clear c2
    have H' := Aside0.mk H
    clear H
    go_wp2
    go_loopg [5, 6] k1 (fun kq v5 v6 w' => ∃ (x5_2 : Int) (x6_2 : Int), v5 = .int .u64 x5_2 ∧ v6 = .int .i64 x6_2 ∧ Aside0 (alibiref03_Mask.l1 kq l0 x3_1 x4_1 x5_2 x6_2 = some r) ∧ Aside0 (kq ≤ k1) ∧ Drawn0 w w')
    case atStart => exact ⟨(1), (0), (by first | rfl | (simp; done) | (simp [*]; done)), (by first | rfl | (simp; done) | (simp [*]; done)), H', ⟨Nat.le_refl _⟩, by repeat (first | exact Drawn0.refl _ | apply Drawn0.step)⟩
    case round =>
     clear H'
     try clear c1
     try clear c2
     try clear c2b0
     try clear p2
     obtain ⟨x5_2, x6_2, rfl, rfl, HA, HK2, ⟨m2, rfl⟩⟩ := hrel
     cases gk with
     | zero => exact absurd HA.out (by simp [alibiref03_Mask.l1])
     | succ k2 =>
      have H := HA.out
      clear HA
      simp only [alibiref03_Mask.l1] at H
      by_cases c3 : 0 ≤ x4_1
      ·rw [if_pos c3] at H
       have c3b0 : decide (0 ≤ x4_1) = true := decide_eq_true c3
       clear c3
       by_cases c4 : x4_1 < (l0.length : Int)
       ·rw [if_pos c4] at H
        have c4b0 : decide (x4_1 < (l0.length : Int)) = true := decide_eq_true c4
        clear c4
        by_cases c5 : x6_2 < (rd l0 x4_1)
        ·rw [if_pos c5] at H
         have c5b0 : decide (x6_2 < (rd l0 x4_1)) = true := decide_eq_true c5
         clear c5
         have H' := Aside0.mk H
         clear H
         have p171 : 0 ≤ (x4_1 : Int) := of_decide_eq_true (by first | (with_reducible assumption) | assumption)
         have q171 : x4_1 < (l0.length : Int) := of_decide_eq_true (by first | (with_reducible assumption) | assumption)
         obtain ⟨ad171, e171, hx171_0⟩ := Kd.at_int HR0.out x4_1 p171 q171
         cases e171
         replace p171 := eq_true p171
         replace q171 := eq_true q171
         go_wp2
         go_roundg k2
         case measure => have := HK1.out; have := HK2.out; omega
         case rel => exact ⟨(IntKind.u64.wrap (x5_2 * 2)), (wrap64 (x6_2 + 1)), (by first | rfl | (simp; done) | (simp [*]; done)), (by first | rfl | (simp; done) | (simp [*]; done)), H', ⟨by have := HK1.out; have := HK2.out; omega⟩, by repeat (first | exact Drawn0.refl _ | apply Drawn0.step)⟩
        ·rw [if_neg c5] at H
         have c5b0 : decide (x6_2 < (rd l0 x4_1)) = false := decide_eq_false c5
         clear c5
         have H' := Aside0.mk H
         clear H
         have p171 : 0 ≤ (x4_1 : Int) := of_decide_eq_true (by first | (with_reducible assumption) | assumption)
         have q171 : x4_1 < (l0.length : Int) := of_decide_eq_true (by first | (with_reducible assumption) | assumption)
         obtain ⟨ad171, e171, hx171_0⟩ := Kd.at_int HR0.out x4_1 p171 q171
         cases e171
         replace p171 := eq_true p171
         replace q171 := eq_true q171
         go_wp2
         go_roundg k2
         case measure => have := HK1.out; have := HK2.out; omega
         case rel => exact ⟨(IntKind.u64.wrap (x3_1 + x5_2)), (wrap64 (x4_1 + 1)), (by first | rfl | (simp; done) | (simp [*]; done)), (by first | rfl | (simp; done) | (simp [*]; done)), H', ⟨by have := HK1.out; have := HK2.out; omega⟩, by repeat (first | exact Drawn0.refl _ | apply Drawn0.step)⟩
       ·rw [if_neg c4] at H
        exact absurd H (by simp)
      ·rw [if_neg c3] at H
       exact absurd H (by simp)
   ·rw [if_neg c2] at H
    have c2b0 : decide (x4_1 < (l0.length : Int)) = false := decide_eq_false c2
    clear c2
    obtain rfl := Option.some.inj H
    go_wp2
    go_ret
    exact ⟨by first | rfl | (simp; done) | (simp [*]; done), by repeat (first | exact Drawn0.refl _ | apply Drawn0.step)⟩

end Go.Proofs.YtpbbkfekibmaiaaDoor.Q
