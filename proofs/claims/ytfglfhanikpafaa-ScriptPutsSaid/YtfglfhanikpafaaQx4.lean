-- Written by this session's wip/myprint.sh (a variant of the kit's printer); Lean checks it.
import Derived.Test.YtfglfhanikpafaaQx0
import Derived.Test.YtfglfhanikpafaaQx3
namespace Go.Proofs.Ytfglfhanikpafaa.Q
open Go.RowKit Go.Proofs.YtfglfhanikpafaaW.PrintWords Go.Proofs.YtfglfhanikpafaaW.PrintLast Go.Proofs.YtfglfhanikpafaaW.PrintMore
attribute [local go_sem] max2_int min2_int max_two min_two max_three min_three max_four min_four   -- for this text's walks alone
set_option linter.unusedVariables false
set_option linter.unusedSimpArgs false

/-! ### alibilaw11_ScriptPuts: function 3 -/
mutual
def alibilaw11_ScriptPuts.j0 : Nat → List (S29) → Bool → Option (Bool)
  | 0, _, _ => none
  | k + 1, x0, x14 => if x14 = true then ((alibilaw11_awake.f k).bind fun t132 => (some t132)) else ((script_Put.f k x0).bind fun bt133 => (if (x0.length : Int) > 4096 then (if bt133.2 = 4 then (some ((bt133.1.length : Int) == 0)) else (some false)) else (alibilaw11_ScriptPuts.l0 k x0 bt133.1 bt133.2 ([] : List Int) 0)))
def alibilaw11_ScriptPuts.l0 : Nat → List (S29) → List Int → Int → List Int → Int → Option (Bool)
  | 0, _, _, _, _, _ => none
  | k + 1, x0, x3, x4, x5, x6 => if x6 < (x0.length : Int) then (if 0 ≤ x6 then (if ((rd_T29 x0 x6).f0) < 0 then (alibilaw11_ScriptPuts.j2 k x0 x3 x4 x5 x6 true) else (alibilaw11_ScriptPuts.j2 k x0 x3 x4 x5 x6 (decide (((rd_T29 x0 x6).f0) > 7)))) else (none)) else (if x4 = 0 then (some ((strOfNums x3).toList == (strOfNums x5).toList)) else (some false))
def alibilaw11_ScriptPuts.j2 : Nat → List (S29) → List Int → Int → List Int → Int → Bool → Option (Bool)
  | 0, _, _, _, _, _, _ => none
  | k + 1, x0, x3, x4, x5, x6, x50 => if x50 = true then (if x4 = 1 then (some ((x3.length : Int) == 0)) else (some false)) else (if 0 ≤ x6 then (if x6 < (x0.length : Int) then (if (rd_T29 x0 x6).f1 = true then (if x5.length < 140737488355328 then (alibilaw11_ScriptPuts.l0 k x0 x3 x4 (x5 ++ [(wrap64 (((rd_T29 x0 x6).f0) + 8)) % 256]) (wrap64 (x6 + 1))) else (none)) else (if x5.length < 140737488355328 then (alibilaw11_ScriptPuts.l0 k x0 x3 x4 (x5 ++ [((rd_T29 x0 x6).f0) % 256]) (wrap64 (x6 + 1))) else (none))) else (none)) else (none))
end
def alibilaw11_ScriptPuts.f (k : Nat) (l0 : List (S29)) : Option (Bool) := (alibilaw11_awake.f k).bind fun t131 => (if t131 = true then (alibilaw11_ScriptPuts.j0 k l0 (decide ((l0.length : Int) > 5000))) else (alibilaw11_ScriptPuts.j0 k l0 true))
theorem alibilaw11_ScriptPuts.mono_l : ∀ k, (∀ y0 y1, LeO (alibilaw11_ScriptPuts.j0 k y0 y1) (alibilaw11_ScriptPuts.j0 (k + 1) y0 y1)) ∧ (∀ y0 y1 y2 y3 y4, LeO (alibilaw11_ScriptPuts.l0 k y0 y1 y2 y3 y4) (alibilaw11_ScriptPuts.l0 (k + 1) y0 y1 y2 y3 y4)) ∧ (∀ y0 y1 y2 y3 y4 y5, LeO (alibilaw11_ScriptPuts.j2 k y0 y1 y2 y3 y4 y5) (alibilaw11_ScriptPuts.j2 (k + 1) y0 y1 y2 y3 y4 y5))
  | 0 => ⟨fun _ _ r h => by simp [alibilaw11_ScriptPuts.j0] at h, fun _ _ _ _ _ r h => by simp [alibilaw11_ScriptPuts.l0] at h, fun _ _ _ _ _ _ r h => by simp [alibilaw11_ScriptPuts.j2] at h⟩
  | k + 1 => by
    obtain ⟨ih0, ih1, ih2⟩ := alibilaw11_ScriptPuts.mono_l k
    refine ⟨?_, ?_, ?_⟩
    · intro y0 y1
      unfold alibilaw11_ScriptPuts.j0
      repeat' first
      | (with_reducible exact ih0 _ _)
      | (with_reducible exact ih1 _ _ _ _ _)
      | (with_reducible exact ih2 _ _ _ _ _ _)
      | (with_reducible exact alibilaw11_awake.mono _)
      | (with_reducible exact script_Put.mono _ _)
      | (with_reducible exact LeO.refl _)
      | (with_reducible exact LeO.none _)
      | (with_reducible refine LeO.ite ?_ ?_)
      | (with_reducible refine LeO.bind ?_ (fun _ => ?_))
      | exact ih0 _ _
      | exact ih1 _ _ _ _ _
      | exact ih2 _ _ _ _ _ _
      | exact alibilaw11_awake.mono _
      | exact script_Put.mono _ _
      | exact LeO.none _
      | refine LeO.ite ?_ ?_
      | refine LeO.bind ?_ (fun _ => ?_)
    · intro y0 y1 y2 y3 y4
      unfold alibilaw11_ScriptPuts.l0
      repeat' first
      | (with_reducible exact ih0 _ _)
      | (with_reducible exact ih1 _ _ _ _ _)
      | (with_reducible exact ih2 _ _ _ _ _ _)
      | (with_reducible exact alibilaw11_awake.mono _)
      | (with_reducible exact script_Put.mono _ _)
      | (with_reducible exact LeO.refl _)
      | (with_reducible exact LeO.none _)
      | (with_reducible refine LeO.ite ?_ ?_)
      | (with_reducible refine LeO.bind ?_ (fun _ => ?_))
      | exact ih0 _ _
      | exact ih1 _ _ _ _ _
      | exact ih2 _ _ _ _ _ _
      | exact alibilaw11_awake.mono _
      | exact script_Put.mono _ _
      | exact LeO.none _
      | refine LeO.ite ?_ ?_
      | refine LeO.bind ?_ (fun _ => ?_)
    · intro y0 y1 y2 y3 y4 y5
      unfold alibilaw11_ScriptPuts.j2
      repeat' first
      | (with_reducible exact ih0 _ _)
      | (with_reducible exact ih1 _ _ _ _ _)
      | (with_reducible exact ih2 _ _ _ _ _ _)
      | (with_reducible exact alibilaw11_awake.mono _)
      | (with_reducible exact script_Put.mono _ _)
      | (with_reducible exact LeO.refl _)
      | (with_reducible exact LeO.none _)
      | (with_reducible refine LeO.ite ?_ ?_)
      | (with_reducible refine LeO.bind ?_ (fun _ => ?_))
      | exact ih0 _ _
      | exact ih1 _ _ _ _ _
      | exact ih2 _ _ _ _ _ _
      | exact alibilaw11_awake.mono _
      | exact script_Put.mono _ _
      | exact LeO.none _
      | refine LeO.ite ?_ ?_
      | refine LeO.bind ?_ (fun _ => ?_)
theorem alibilaw11_ScriptPuts.mono : ∀ a0 k, LeO (alibilaw11_ScriptPuts.f k a0) (alibilaw11_ScriptPuts.f (k + 1) a0) := by
  intro a0 k
  obtain ⟨ih0, ih1, ih2⟩ := alibilaw11_ScriptPuts.mono_l k
  unfold alibilaw11_ScriptPuts.f
  repeat' first
      | (with_reducible exact ih0 _ _)
      | (with_reducible exact ih1 _ _ _ _ _)
      | (with_reducible exact ih2 _ _ _ _ _ _)
      | (with_reducible exact alibilaw11_awake.mono _)
      | (with_reducible exact script_Put.mono _ _)
      | (with_reducible exact LeO.refl _)
      | (with_reducible exact LeO.none _)
      | (with_reducible refine LeO.ite ?_ ?_)
      | (with_reducible refine LeO.bind ?_ (fun _ => ?_))
      | exact ih0 _ _
      | exact ih1 _ _ _ _ _
      | exact ih2 _ _ _ _ _ _
      | exact alibilaw11_awake.mono _
      | exact script_Put.mono _ _
      | exact LeO.none _
      | refine LeO.ite ?_ ?_
      | refine LeO.bind ?_ (fun _ => ?_)
set_option maxHeartbeats 8000000 in
set_option maxRecDepth 100000 in
theorem alibilaw11_ScriptPuts.calls (k : Nat) (A0 : Option Addr) (c0 : Nat) (l0 : List (S29)) (r : Bool) (w : World) (hr0 : Kd.C k29 w A0 l0.length l0) (hc0 : l0.length ≤ c0) (h : alibilaw11_ScriptPuts.f k l0 = some r) :
    Calls Try.prog 3 #[.slice A0 l0.length c0] w fun e w' => e = .returned (.bool r) ∧ Below w.heap.size w w' := by
  have HR0 := Aside0.mk hr0
  have HC0 := Aside0.mk hc0
  clear hr0 hc0
  have HB := Aside0.mk (Below.refl w.heap.size w)
  have H : ((alibilaw11_awake.f k).bind fun t131 => (if t131 = true then (alibilaw11_ScriptPuts.j0 k l0 (decide ((l0.length : Int) > 5000))) else (alibilaw11_ScriptPuts.j0 k l0 true))) = some r := h
  clear h
  have HC2 := Aside0.mk H
  clear H
  go_enter Try.func3, Try.ntmps3
  go_upto_region 1 with (fail)
  go_cut [14] (fun v14 wc => ∃ (kq : Nat) (x14_1 : Bool), v14 = .bool x14_1 ∧ Aside0 (alibilaw11_ScriptPuts.j0 kq l0 x14_1 = some r) ∧ Aside0 (kq ≤ k) ∧ Aside0 (Below w.heap.size w wc))
  case first =>
    have H := HC2.out
    clear HC2
    replace H := Option.bind_eq_some_iff.mp H
    obtain ⟨t131, A30, H⟩ := H
    replace H : (if t131 = true then (alibilaw11_ScriptPuts.j0 k l0 (decide ((l0.length : Int) > 5000))) else (alibilaw11_ScriptPuts.j0 k l0 true)) = some r := H
    have A3 := Aside0.mk A30
    clear A30
    by_cases c4 : t131 = true
    · subst c4
      have H1 : (alibilaw11_ScriptPuts.j0 k l0 (decide ((l0.length : Int) > 5000))) = some r := by rw [if_pos rfl] at H; exact H
      clear H
      have H := H1
      clear H1
      have H' := Aside0.mk H
      clear H
      go_wp2_with (first | ((with_reducible refine gate_callee (f := 6) rfl ?_); refine goesL_ (some 8) rfl rfl Try.func6 (by kernel_rfl) rfl #[] rfl (by (try simp only [List.map_toArray, List.map_cons, List.map_nil]); first | done | rfl | (simp only [List.length_drop, List.length_take]; rfl)) ?_; (with_reducible refine (alibilaw11_awake.calls k  true _ A3.out).mono ?_); rintro e w5 ⟨rfl, hb⟩; refine ⟨_, rfl, ?_⟩; have n0_ := Aside0.mk (below_step (by repeat (first | (with_reducible first | exact HB.out | apply below_alloc | apply pw_below_drewN | apply below_drew1) | exact HB.out)) hb); clear HB; have HB := n0_; clear n0_; (try clear hb); (try clear hb2); (try clear hk); (try clear hi)))
      go_meet
      case rel => exact ⟨_, (decide ((l0.length : Int) > 5000)), (by first | rfl | (simp; done) | (simp [*]; done)), H', ⟨by first | omega | exact Nat.le_refl _⟩, ⟨by repeat (first | (with_reducible first | exact HB.out | apply below_alloc | apply pw_below_drewN | apply below_drew1) | exact HB.out)⟩⟩
    · replace c4 := Bool.eq_false_iff.mpr c4
      subst c4
      have H1 : (alibilaw11_ScriptPuts.j0 k l0 true) = some r := by rw [if_neg (show ¬ (false = true) by decide)] at H; exact H
      clear H
      have H := H1
      clear H1
      have H' := Aside0.mk H
      clear H
      go_wp2_with (first | ((with_reducible refine gate_callee (f := 6) rfl ?_); refine goesL_ (some 8) rfl rfl Try.func6 (by kernel_rfl) rfl #[] rfl (by (try simp only [List.map_toArray, List.map_cons, List.map_nil]); first | done | rfl | (simp only [List.length_drop, List.length_take]; rfl)) ?_; (with_reducible refine (alibilaw11_awake.calls k  false _ A3.out).mono ?_); rintro e w6 ⟨rfl, hb⟩; refine ⟨_, rfl, ?_⟩; have n0_ := Aside0.mk (below_step (by repeat (first | (with_reducible first | exact HB.out | apply below_alloc | apply pw_below_drewN | apply below_drew1) | exact HB.out)) hb); clear HB; have HB := n0_; clear n0_; (try clear hb); (try clear hb2); (try clear hk); (try clear hi)))
      go_meet
      case rel => exact ⟨_, (true), (by first | rfl | (simp; done) | (simp [*]; done)), H', ⟨by first | omega | exact Nat.le_refl _⟩, ⟨by repeat (first | (with_reducible first | exact HB.out | apply below_alloc | apply pw_below_drewN | apply below_drew1) | exact HB.out)⟩⟩
  case rest =>
    clear HC2
    try clear p2
    try clear c3
    try clear c4
    try clear c6
    obtain ⟨kq, x14_1, rfl, HA, HJ1, HB⟩ := hcut
    cases kq with
    | zero => exact absurd HA.out (by simp [alibilaw11_ScriptPuts.j0])
    | succ kj1 =>
      have H := HA.out
      clear HA
      simp only [alibilaw11_ScriptPuts.j0] at H
      by_cases c7 : x14_1 = true
      · subst c7
        have H1 : ((alibilaw11_awake.f kj1).bind fun t132 => (some t132)) = some r := by rw [if_pos rfl] at H; exact H
        clear H
        have H := H1
        clear H1
        replace H := Option.bind_eq_some_iff.mp H
        obtain ⟨t132, A80, H⟩ := H
        replace H : (some t132) = some r := H
        have A8 := Aside0.mk A80
        clear A80
        obtain rfl := Option.some.inj H
        go_wp2_with (first | ((with_reducible refine gate_callee (f := 6) rfl ?_); refine goesL_ (some 15) rfl rfl Try.func6 (by kernel_rfl) rfl #[] rfl (by (try simp only [List.map_toArray, List.map_cons, List.map_nil]); first | done | rfl | (simp only [List.length_drop, List.length_take]; rfl)) ?_; (with_reducible refine (alibilaw11_awake.calls kj1  t132 _ A8.out).mono ?_); rintro e w9 ⟨rfl, hb⟩; refine ⟨_, rfl, ?_⟩; have n0_ := Aside0.mk (below_step (by repeat (first | (with_reducible first | exact HB.out | apply below_alloc | apply pw_below_drewN | apply below_drew1) | exact HB.out)) hb); clear HB; have HB := n0_; clear n0_; (try clear hb); (try clear hb2); (try clear hk); (try clear hi)))
        go_ret
        exact ⟨by first | rfl | (simp [errW_none, errW_some] <;> rfl) | (simp [*, errW_none, errW_some] <;> rfl), by repeat (first | (with_reducible first | exact HB.out | apply below_alloc | apply pw_below_drewN | apply below_drew1) | exact HB.out)⟩
      · replace c7 := Bool.eq_false_iff.mpr c7
        subst c7
        have H1 : ((script_Put.f kj1 l0).bind fun bt133 => (if (l0.length : Int) > 4096 then (if bt133.2 = 4 then (some ((bt133.1.length : Int) == 0)) else (some false)) else (alibilaw11_ScriptPuts.l0 kj1 l0 bt133.1 bt133.2 ([] : List Int) 0))) = some r := by rw [if_neg (show ¬ (false = true) by decide)] at H; exact H
        clear H
        have H := H1
        clear H1
        replace H := Option.bind_eq_some_iff.mp H
        obtain ⟨⟨t133, t134⟩, A100, H⟩ := H
        replace H : (if (l0.length : Int) > 4096 then (if t134 = 4 then (some ((t133.length : Int) == 0)) else (some false)) else (alibilaw11_ScriptPuts.l0 kj1 l0 t133 t134 ([] : List Int) 0)) = some r := H
        have A10 := Aside0.mk A100
        clear A100
        by_cases c11 : (l0.length : Int) > 4096
        · rw [if_pos c11] at H
          have c11b0 : decide (4096 < (l0.length : Int)) = true := decide_eq_true c11
          have c11b1 : decide (4096 < l0.length) = true := decide_eq_true (by omega)
          clear c11
          by_cases c12 : t134 = 4
          · rw [if_pos c12] at H
            have c12b0 : (t134 == 4) = true := beq_iff_eq.mpr c12
            have c12b1 : (t134 != 4) = false := bne_eq_false_iff_eq.mpr c12
            clear c12
            obtain rfl := Option.some.inj H
            go_wp2_with (first | ((with_reducible refine gate_callee (f := 7) rfl ?_); refine goesL_ (some 18) rfl rfl Try.func7 (by kernel_rfl) rfl #[.slice A0 l0.length c0] rfl (by (try simp only [List.map_toArray, List.map_cons, List.map_nil]); first | done | rfl | (simp only [List.length_drop, List.length_take]; rfl)) ?_; (with_reducible refine (script_Put.calls kj1 _ _ l0 t133 t134 _ ?side1 ?side2 A10.out).mono ?_); (case side1 => repeat (first | exact (Kd.C_below HR0.out HB.out) | (with_reducible refine Kd.C_alloc ?_ _) | (with_reducible refine Kd.C_drewN ?_ _) | (with_reducible refine Kd.C_drew ?_))); (case side2 => exact HC0.out); rintro e w13 ⟨v135, rfl, ho0, hb⟩; refine ⟨_, rfl, ?_⟩; have n0_ := Aside0.mk (Kd.R_lower ho0 (below_size (by repeat (first | (with_reducible first | exact HB.out | apply below_alloc | apply pw_below_drewN | apply below_drew1) | exact HB.out)))); have n1_ := Aside0.mk (below_step (by repeat (first | (with_reducible first | exact HB.out | apply below_alloc | apply pw_below_drewN | apply below_drew1) | exact HB.out)) hb); clear HB; have HO136 := n0_; have HB := n1_; clear n0_ n1_; (try clear hb); (try clear hb2); (try clear hk); (try clear hi); (try clear ho0); obtain ⟨Ao14, co14, eo14⟩ := Kd.R_slice HO136.out; subst eo14))
            go_ret
            exact ⟨by first | rfl | (simp [errW_none, errW_some] <;> rfl) | (simp [*, errW_none, errW_some] <;> rfl), by repeat (first | (with_reducible first | exact HB.out | apply below_alloc | apply pw_below_drewN | apply below_drew1) | exact HB.out)⟩
          · rw [if_neg c12] at H
            have c12b0 : (t134 == 4) = false := beq_eq_false_iff_ne.mpr c12
            have c12b1 : (t134 != 4) = true := bne_iff_ne.mpr c12
            obtain rfl := Option.some.inj H
            go_wp2_with (first | ((with_reducible refine gate_callee (f := 7) rfl ?_); refine goesL_ (some 18) rfl rfl Try.func7 (by kernel_rfl) rfl #[.slice A0 l0.length c0] rfl (by (try simp only [List.map_toArray, List.map_cons, List.map_nil]); first | done | rfl | (simp only [List.length_drop, List.length_take]; rfl)) ?_; (with_reducible refine (script_Put.calls kj1 _ _ l0 t133 t134 _ ?side1 ?side2 A10.out).mono ?_); (case side1 => repeat (first | exact (Kd.C_below HR0.out HB.out) | (with_reducible refine Kd.C_alloc ?_ _) | (with_reducible refine Kd.C_drewN ?_ _) | (with_reducible refine Kd.C_drew ?_))); (case side2 => exact HC0.out); rintro e w15 ⟨v135, rfl, ho0, hb⟩; refine ⟨_, rfl, ?_⟩; have n0_ := Aside0.mk (Kd.R_lower ho0 (below_size (by repeat (first | (with_reducible first | exact HB.out | apply below_alloc | apply pw_below_drewN | apply below_drew1) | exact HB.out)))); have n1_ := Aside0.mk (below_step (by repeat (first | (with_reducible first | exact HB.out | apply below_alloc | apply pw_below_drewN | apply below_drew1) | exact HB.out)) hb); clear HB; have HO136 := n0_; have HB := n1_; clear n0_ n1_; (try clear hb); (try clear hb2); (try clear hk); (try clear hi); (try clear ho0)))
            go_ret
            exact ⟨by first | rfl | (simp [errW_none, errW_some] <;> rfl) | (simp [*, errW_none, errW_some] <;> rfl), by repeat (first | (with_reducible first | exact HB.out | apply below_alloc | apply pw_below_drewN | apply below_drew1) | exact HB.out)⟩
        · rw [if_neg c11] at H
          have c11b0 : decide (4096 < (l0.length : Int)) = false := decide_eq_false c11
          have c11b1 : decide (4096 < l0.length) = false := decide_eq_false (by omega)
          clear c11
          have H' := Aside0.mk H
          clear H
          go_wp2_with (first | ((with_reducible refine gate_callee (f := 7) rfl ?_); refine goesL_ (some 18) rfl rfl Try.func7 (by kernel_rfl) rfl #[.slice A0 l0.length c0] rfl (by (try simp only [List.map_toArray, List.map_cons, List.map_nil]); first | done | rfl | (simp only [List.length_drop, List.length_take]; rfl)) ?_; (with_reducible refine (script_Put.calls kj1 _ _ l0 t133 t134 _ ?side1 ?side2 A10.out).mono ?_); (case side1 => repeat (first | exact (Kd.C_below HR0.out HB.out) | (with_reducible refine Kd.C_alloc ?_ _) | (with_reducible refine Kd.C_drewN ?_ _) | (with_reducible refine Kd.C_drew ?_))); (case side2 => exact HC0.out); rintro e w16 ⟨v135, rfl, ho0, hb⟩; refine ⟨_, rfl, ?_⟩; have n0_ := Aside0.mk (Kd.R_lower ho0 (below_size (by repeat (first | (with_reducible first | exact HB.out | apply below_alloc | apply pw_below_drewN | apply below_drew1) | exact HB.out)))); have n1_ := Aside0.mk (below_step (by repeat (first | (with_reducible first | exact HB.out | apply below_alloc | apply pw_below_drewN | apply below_drew1) | exact HB.out)) hb); clear HB; have HO136 := n0_; have HB := n1_; clear n0_ n1_; (try clear hb); (try clear hb2); (try clear hk); (try clear hi); (try clear ho0)))
          go_loopg [5, 6] kj1 (fun kq v5 v6 w' => ∃ (x5_2 : List Int) (x6_2 : Int), v6 = .int .i64 x6_2 ∧ Aside0 (alibilaw11_ScriptPuts.l0 kq l0 t133 t134 x5_2 x6_2 = some r) ∧ Aside0 (kq ≤ kj1) ∧ Aside0 (Kd.R (Kd.int .u8) 5 w' w.heap.size (fun k_ => some k_ ≠ (v5 : Value).ownBlock) v135 t133) ∧ Aside0 (Kd.R (Kd.int .u8) 5 w' w.heap.size (fun k_ => some k_ ≠ (v135 : Value).ownBlock) v5 x5_2) ∧ Aside0 (Below w.heap.size w w'))
          case atStart => exact ⟨(([] : List Int)), (0), (by first | rfl | (simp; done) | (simp [*]; done)), H', ⟨Nat.le_refl _⟩, ⟨by (with_reducible repeat (first | apply Kd.R_alloc | apply Kd.R_drewN | apply Kd.R_drew)); exact Kd.R_mono HO136.out (fun _ hk => (by simp [Value.ownBlock]))⟩, ⟨by first | exact Kd.R_nil _ _ _ _ _ | exact Kd.N_nil _ _ _ _ _ | exact Kd.V_nil _ _ _ _ _ | exact Kd.Q_nil _ _ _ _ _ | exact Kd.S_nil _ _ _ _ _⟩, ⟨by repeat (first | (with_reducible first | exact HB.out | apply below_alloc | apply pw_below_drewN | apply below_drew1) | exact HB.out)⟩⟩
          case round =>
            clear H'
            try clear c1
            try clear p2
            try clear c3
            try clear c4
            try clear c6
            try clear c7
            try clear c11
            try clear c11b0
            try clear c11b1
            try clear c12
            try clear c12b0
            try clear c12b1
            try clear p2
            obtain ⟨x5_2, x6_2, rfl, HA, HK2, HO_3, HO_5, HB⟩ := hrel
            cases gk with
            | zero => exact absurd HA.out (by simp [alibilaw11_ScriptPuts.l0])
            | succ k2 =>
              have H := HA.out
              clear HA
              simp only [alibilaw11_ScriptPuts.l0] at H
              by_cases c17 : x6_2 < (l0.length : Int)
              · rw [if_pos c17] at H
                have c17b0 : decide (x6_2 < (l0.length : Int)) = true := decide_eq_true c17
                clear c17
                have HC18 := Aside0.mk H
                clear H
                go_upto_region 10 with (fail)
                go_cut [50] (fun v50 wc => ∃ (kq : Nat) (x50_17 : Bool), v50 = .bool x50_17 ∧ Aside0 (alibilaw11_ScriptPuts.j2 kq l0 t133 t134 x5_2 x6_2 x50_17 = some r) ∧ Aside0 (kq ≤ k2) ∧ Aside0 (Kd.R (Kd.int .u8) 5 wc w.heap.size (fun k_ => some k_ ≠ (u5 : Value).ownBlock) v135 t133) ∧ Aside0 (Kd.R (Kd.int .u8) 5 wc w.heap.size (fun k_ => some k_ ≠ (v135 : Value).ownBlock) u5 x5_2) ∧ Aside0 (Below w.heap.size w wc))
                case first =>
                  have H := HC18.out
                  clear HC18
                  by_cases c19 : 0 ≤ x6_2
                  · rw [if_pos c19] at H
                    have c19b0 : decide (0 ≤ x6_2) = true := decide_eq_true c19
                    clear c19
                    (first | rw [c19b0] | (simp only [i64_w, i32_w]; rw [c19b0]) | skip)
                    by_cases c20 : ((rd_T29 l0 x6_2).f0) < 0
                    · rw [if_pos c20] at H
                      have c20b0 : decide (((rd_T29 l0 x6_2).f0) < 0) = true := decide_eq_true c20
                      clear c20
                      have H' := Aside0.mk H
                      clear H
                      have p137 : 0 ≤ (x6_2 : Int) := of_decide_eq_true (by first | (with_reducible assumption) | assumption)
                      have q137 : x6_2 < (l0.length : Int) := of_decide_eq_true (by first | (with_reducible assumption) | assumption)
                      obtain ⟨ad137, e137, hx137_0, hx137_1⟩ := at_T29 HR0.out x6_2 p137 q137
                      cases e137
                      replace hx137_0 := (HB.out.cell (World.block_lt_of_cell? w _ hx137_0)).trans hx137_0
                      replace hx137_1 := (HB.out.cell (World.block_lt_of_cell? w _ hx137_1)).trans hx137_1
                      replace p137 := eq_true p137
                      replace q137 := eq_true q137
                      go_wp2
                      go_meet
                      case rel => exact ⟨_, (true), (by first | rfl | (simp; done) | (simp [*]; done)), H', ⟨by have := HJ1.out; have := HK2.out; first | omega | exact Nat.le_refl _⟩, ⟨by (with_reducible repeat (first | apply Kd.R_alloc | apply Kd.R_drewN | apply Kd.R_drew)); exact HO_3.out⟩, ⟨by (with_reducible repeat (first | apply Kd.R_alloc | apply Kd.R_drewN | apply Kd.R_drew)); exact HO_5.out⟩, ⟨by repeat (first | (with_reducible first | exact HB.out | apply below_alloc | apply pw_below_drewN | apply below_drew1) | exact HB.out)⟩⟩
                    · rw [if_neg c20] at H
                      have c20b0 : decide (((rd_T29 l0 x6_2).f0) < 0) = false := decide_eq_false c20
                      clear c20
                      have H' := Aside0.mk H
                      clear H
                      have p137 : 0 ≤ (x6_2 : Int) := of_decide_eq_true (by first | (with_reducible assumption) | assumption)
                      have q137 : x6_2 < (l0.length : Int) := of_decide_eq_true (by first | (with_reducible assumption) | assumption)
                      obtain ⟨ad137, e137, hx137_0, hx137_1⟩ := at_T29 HR0.out x6_2 p137 q137
                      cases e137
                      replace hx137_0 := (HB.out.cell (World.block_lt_of_cell? w _ hx137_0)).trans hx137_0
                      replace hx137_1 := (HB.out.cell (World.block_lt_of_cell? w _ hx137_1)).trans hx137_1
                      replace p137 := eq_true p137
                      replace q137 := eq_true q137
                      have p138 : 0 ≤ (x6_2 : Int) := of_decide_eq_true (by first | (with_reducible assumption) | assumption)
                      have q138 : x6_2 < (l0.length : Int) := of_decide_eq_true (by first | (with_reducible assumption) | assumption)
                      obtain ⟨ad138, e138, hx138_0, hx138_1⟩ := at_T29 HR0.out x6_2 p138 q138
                      obtain rfl : ad137 = ad138 := (by injection e138)
                      replace hx138_0 := (HB.out.cell (World.block_lt_of_cell? w _ hx138_0)).trans hx138_0
                      replace hx138_1 := (HB.out.cell (World.block_lt_of_cell? w _ hx138_1)).trans hx138_1
                      replace p138 := eq_true p138
                      replace q138 := eq_true q138
                      go_wp2
                      go_meet
                      case rel => exact ⟨_, (decide (((rd_T29 l0 x6_2).f0) > 7)), (by first | rfl | (simp; done) | (simp [*]; done)), H', ⟨by have := HJ1.out; have := HK2.out; first | omega | exact Nat.le_refl _⟩, ⟨by (with_reducible repeat (first | apply Kd.R_alloc | apply Kd.R_drewN | apply Kd.R_drew)); exact HO_3.out⟩, ⟨by (with_reducible repeat (first | apply Kd.R_alloc | apply Kd.R_drewN | apply Kd.R_drew)); exact HO_5.out⟩, ⟨by repeat (first | (with_reducible first | exact HB.out | apply below_alloc | apply pw_below_drewN | apply below_drew1) | exact HB.out)⟩⟩
                  · rw [if_neg c19] at H
                    exact absurd H (by simp)
                case rest =>
                  clear HC18
                  try clear c1
                  try clear p1
                  try clear q1
                  try clear hx1
                  try clear c2
                  try clear p2
                  try clear c3
                  try clear c4
                  try clear c6
                  try clear c7
                  try clear c11
                  try clear c11b0
                  try clear c11b1
                  try clear c12
                  try clear c12b0
                  try clear c12b1
                  try clear p13
                  try clear q13
                  try clear hx13
                  try clear c17
                  try clear c17b0
                  try clear c19
                  try clear c19b0
                  try clear c20
                  try clear c20b0
                  try clear hx137_0
                  try clear hx137_1
                  try clear hx138_0
                  try clear hx138_1
                  try clear p137
                  try clear p138
                  try clear p2
                  try clear q137
                  try clear q138
                  obtain ⟨kq, x50_17, rfl, HA, HJ17, HO_3, HO_5, HB⟩ := hcut
                  cases kq with
                  | zero => exact absurd HA.out (by simp [alibilaw11_ScriptPuts.j2])
                  | succ kj17 =>
                    have H := HA.out
                    clear HA
                    simp only [alibilaw11_ScriptPuts.j2] at H
                    by_cases c21 : x50_17 = true
                    · subst c21
                      have H1 : (if t134 = 1 then (some ((t133.length : Int) == 0)) else (some false)) = some r := by rw [if_pos rfl] at H; exact H
                      clear H
                      have H := H1
                      clear H1
                      by_cases c22 : t134 = 1
                      · rw [if_pos c22] at H
                        have c22b0 : (t134 == 1) = true := beq_iff_eq.mpr c22
                        have c22b1 : (t134 != 1) = false := bne_eq_false_iff_eq.mpr c22
                        clear c22
                        obtain rfl := Option.some.inj H
                        obtain ⟨Ao23, co23, eo23⟩ := Kd.R_slice HO_3.out
                        subst eo23
                        go_wp2
                        go_ret
                        exact ⟨by first | rfl | (simp [errW_none, errW_some] <;> rfl) | (simp [*, errW_none, errW_some] <;> rfl), by repeat (first | (with_reducible first | exact HB.out | apply below_alloc | apply pw_below_drewN | apply below_drew1) | exact HB.out)⟩
                      · rw [if_neg c22] at H
                        have c22b0 : (t134 == 1) = false := beq_eq_false_iff_ne.mpr c22
                        have c22b1 : (t134 != 1) = true := bne_iff_ne.mpr c22
                        obtain rfl := Option.some.inj H
                        go_wp2
                        go_ret
                        exact ⟨by first | rfl | (simp [errW_none, errW_some] <;> rfl) | (simp [*, errW_none, errW_some] <;> rfl), by repeat (first | (with_reducible first | exact HB.out | apply below_alloc | apply pw_below_drewN | apply below_drew1) | exact HB.out)⟩
                    · replace c21 := Bool.eq_false_iff.mpr c21
                      subst c21
                      have H1 : (if 0 ≤ x6_2 then (if x6_2 < (l0.length : Int) then (if (rd_T29 l0 x6_2).f1 = true then (if x5_2.length < 140737488355328 then (alibilaw11_ScriptPuts.l0 kj17 l0 t133 t134 (x5_2 ++ [(wrap64 (((rd_T29 l0 x6_2).f0) + 8)) % 256]) (wrap64 (x6_2 + 1))) else (none)) else (if x5_2.length < 140737488355328 then (alibilaw11_ScriptPuts.l0 kj17 l0 t133 t134 (x5_2 ++ [((rd_T29 l0 x6_2).f0) % 256]) (wrap64 (x6_2 + 1))) else (none))) else (none)) else (none)) = some r := by rw [if_neg (show ¬ (false = true) by decide)] at H; exact H
                      clear H
                      have H := H1
                      clear H1
                      by_cases c24 : 0 ≤ x6_2
                      · rw [if_pos c24] at H
                        have c24b0 : decide (0 ≤ x6_2) = true := decide_eq_true c24
                        clear c24
                        by_cases c25 : x6_2 < (l0.length : Int)
                        · rw [if_pos c25] at H
                          have c25b0 : decide (x6_2 < (l0.length : Int)) = true := decide_eq_true c25
                          clear c25
                          obtain ⟨bq26, hbq26⟩ : ∃ b_ : Bool, b_ = ((rd_T29 l0 x6_2).f1) := ⟨_, rfl⟩
                          replace H : (if bq26 = true then (if x5_2.length < 140737488355328 then (alibilaw11_ScriptPuts.l0 kj17 l0 t133 t134 (x5_2 ++ [(wrap64 (((rd_T29 l0 x6_2).f0) + 8)) % 256]) (wrap64 (x6_2 + 1))) else (none)) else (if x5_2.length < 140737488355328 then (alibilaw11_ScriptPuts.l0 kj17 l0 t133 t134 (x5_2 ++ [((rd_T29 l0 x6_2).f0) % 256]) (wrap64 (x6_2 + 1))) else (none))) = some r := by rw [← hbq26] at H; exact H
                          have Nbq26 := Aside0.mk hbq26
                          clear hbq26
                          by_cases c27 : bq26 = true
                          · subst c27
                            have H1 : (if x5_2.length < 140737488355328 then (alibilaw11_ScriptPuts.l0 kj17 l0 t133 t134 (x5_2 ++ [(wrap64 (((rd_T29 l0 x6_2).f0) + 8)) % 256]) (wrap64 (x6_2 + 1))) else (none)) = some r := by rw [if_pos rfl] at H; exact H
                            clear H
                            have H := H1
                            clear H1
                            by_cases c28 : x5_2.length < 140737488355328
                            · rw [if_pos c28] at H
                              have LMc28 := Aside0.mk c28
                              clear c28
                              obtain ⟨y141, hy141⟩ : ∃ y_ : List Int, y_ = (x5_2 ++ [(wrap64 (((rd_T29 l0 x6_2).f0) + 8)) % 256]) := ⟨_, rfl⟩
                              replace H : (alibilaw11_ScriptPuts.l0 kj17 l0 t133 t134 y141 (wrap64 (x6_2 + 1))) = some r := by first | (rw [hy141]; with_reducible exact H) | (have H2_ := (Option.bind_some _ _).symm.trans H; rw [hy141]; with_reducible exact H2_) | (have H2_ := (Option.bind_some _ _).symm.trans H; with_reducible exact H2_) | with_reducible exact H | (rw [hy141]; exact H) | exact H
                              have Ny141 := Aside0.mk hy141
                              clear hy141
                              have H' := Aside0.mk H
                              clear H
                              have p139 : 0 ≤ (x6_2 : Int) := of_decide_eq_true (by first | (with_reducible assumption) | assumption)
                              have q139 : x6_2 < (l0.length : Int) := of_decide_eq_true (by first | (with_reducible assumption) | assumption)
                              obtain ⟨ad139, e139, hx139_0, hx139_1⟩ := at_T29 HR0.out x6_2 p139 q139
                              (try rw [← Nbq26.out] at hx139_1)
                              cases e139
                              replace hx139_0 := (HB.out.cell (World.block_lt_of_cell? w _ hx139_0)).trans hx139_0
                              replace hx139_1 := (HB.out.cell (World.block_lt_of_cell? w _ hx139_1)).trans hx139_1
                              replace p139 := eq_true p139
                              replace q139 := eq_true q139
                              have p140 : 0 ≤ (x6_2 : Int) := of_decide_eq_true (by first | (with_reducible assumption) | assumption)
                              have q140 : x6_2 < (l0.length : Int) := of_decide_eq_true (by first | (with_reducible assumption) | assumption)
                              obtain ⟨ad140, e140, hx140_0, hx140_1⟩ := at_T29 HR0.out x6_2 p140 q140
                              (try rw [← Nbq26.out] at hx140_1)
                              obtain rfl : ad139 = ad140 := (by injection e140)
                              replace hx140_0 := (HB.out.cell (World.block_lt_of_cell? w _ hx140_0)).trans hx140_0
                              replace hx140_1 := (HB.out.cell (World.block_lt_of_cell? w _ hx140_1)).trans hx140_1
                              replace p140 := eq_true p140
                              replace q140 := eq_true q140
                              go_wp2_with (first | ((with_reducible refine gate_builtin (b := .append) (xs := #[.tmp 70, .tmp 73]) rfl ?_); (try (refine gate_guard (by rfl) ?_; dsimp only)); at_builtin; refine Kd.R_append (Kd.int .u8) (w0 := w) w.heap.size rfl (.tmp 70) (.tmp 73) 24 5 (.int .u8 0) 1 rfl Try.underlying24 info5 rfl (by decide) (by omega) u5 x5_2 ((wrap64 (((rd_T29 l0 x6_2).f0) + 8)) % 256) [.int .u8 ((wrap64 (((rd_T29 l0 x6_2).f0) + 8)) % 256)] (fun k_ => some k_ ≠ (v135 : Value).ownBlock) (fun _ => False) rfl rfl ?aP (fun _ hk => hk.elim) ?aF ?aO ?aB ?aS ?aL ?_; (case aP => exact rfl); (case aB => exact (by repeat (first | (with_reducible first | exact HB.out | apply below_alloc | apply pw_below_drewN | apply below_drew1) | exact HB.out))); (case aF => exact (fun k_ hk => Kd.fresh' (Kd.R_lt (by (with_reducible repeat (first | apply Kd.R_alloc | apply Kd.R_drewN | apply Kd.R_drew)); exact HO_3.out)) k_ hk)); (case aO => exact (by (with_reducible repeat (first | apply Kd.R_alloc | apply Kd.R_drewN | apply Kd.R_drew)); exact HO_5.out)); (case aS => exact (below_size (by repeat (first | (with_reducible first | exact HB.out | apply below_alloc | apply pw_below_drewN | apply below_drew1) | exact HB.out)))); (case aL => have := LMc28.out; omega); intro v142 w29 ho hb hg hat; rw [← Ny141.out] at ho; have n0_ := Aside0.mk (Kd.R_after (ok := (fun _ => True)) (by (with_reducible repeat (first | apply Kd.R_alloc | apply Kd.R_drewN | apply Kd.R_drew)); exact Kd.R_mono HO_3.out (fun _ hk => ⟨trivial, hk⟩)) hg hat); have n1_ := Aside0.mk (hb); have n2_ := Aside0.mk (ho); clear HO_3; clear HB; clear HO_5; have HO_3 := n0_; have HB := n1_; have HO143 := n2_; clear n0_ n1_ n2_; clear ho hb hg hat))
                              go_roundg kj17
                              case measure => have := HJ1.out; have := HK2.out; have := HJ17.out; omega
                              case rel => exact ⟨(y141), (wrap64 (x6_2 + 1)), (by first | rfl | (simp; done) | (simp [*]; done)), H', ⟨by have := HJ1.out; have := HK2.out; have := HJ17.out; omega⟩, ⟨by (with_reducible repeat (first | apply Kd.R_alloc | apply Kd.R_drewN | apply Kd.R_drew)); exact Kd.R_mono HO_3.out (fun _ hk => hk.2)⟩, ⟨by (with_reducible repeat (first | apply Kd.R_alloc | apply Kd.R_drewN | apply Kd.R_drew)); exact HO143.out⟩, ⟨by repeat (first | (with_reducible first | exact HB.out | apply below_alloc | apply pw_below_drewN | apply below_drew1) | exact HB.out)⟩⟩
                            · rw [if_neg c28] at H
                              exact absurd H (by simp)
                          · replace c27 := Bool.eq_false_iff.mpr c27
                            subst c27
                            have H1 : (if x5_2.length < 140737488355328 then (alibilaw11_ScriptPuts.l0 kj17 l0 t133 t134 (x5_2 ++ [((rd_T29 l0 x6_2).f0) % 256]) (wrap64 (x6_2 + 1))) else (none)) = some r := by rw [if_neg (show ¬ (false = true) by decide)] at H; exact H
                            clear H
                            have H := H1
                            clear H1
                            by_cases c30 : x5_2.length < 140737488355328
                            · rw [if_pos c30] at H
                              have LMc30 := Aside0.mk c30
                              clear c30
                              obtain ⟨y144, hy144⟩ : ∃ y_ : List Int, y_ = (x5_2 ++ [((rd_T29 l0 x6_2).f0) % 256]) := ⟨_, rfl⟩
                              replace H : (alibilaw11_ScriptPuts.l0 kj17 l0 t133 t134 y144 (wrap64 (x6_2 + 1))) = some r := by first | (rw [hy144]; with_reducible exact H) | (have H2_ := (Option.bind_some _ _).symm.trans H; rw [hy144]; with_reducible exact H2_) | (have H2_ := (Option.bind_some _ _).symm.trans H; with_reducible exact H2_) | with_reducible exact H | (rw [hy144]; exact H) | exact H
                              have Ny144 := Aside0.mk hy144
                              clear hy144
                              have H' := Aside0.mk H
                              clear H
                              have p139 : 0 ≤ (x6_2 : Int) := of_decide_eq_true (by first | (with_reducible assumption) | assumption)
                              have q139 : x6_2 < (l0.length : Int) := of_decide_eq_true (by first | (with_reducible assumption) | assumption)
                              obtain ⟨ad139, e139, hx139_0, hx139_1⟩ := at_T29 HR0.out x6_2 p139 q139
                              (try rw [← Nbq26.out] at hx139_1)
                              cases e139
                              replace hx139_0 := (HB.out.cell (World.block_lt_of_cell? w _ hx139_0)).trans hx139_0
                              replace hx139_1 := (HB.out.cell (World.block_lt_of_cell? w _ hx139_1)).trans hx139_1
                              replace p139 := eq_true p139
                              replace q139 := eq_true q139
                              have p140 : 0 ≤ (x6_2 : Int) := of_decide_eq_true (by first | (with_reducible assumption) | assumption)
                              have q140 : x6_2 < (l0.length : Int) := of_decide_eq_true (by first | (with_reducible assumption) | assumption)
                              obtain ⟨ad140, e140, hx140_0, hx140_1⟩ := at_T29 HR0.out x6_2 p140 q140
                              (try rw [← Nbq26.out] at hx140_1)
                              obtain rfl : ad139 = ad140 := (by injection e140)
                              replace hx140_0 := (HB.out.cell (World.block_lt_of_cell? w _ hx140_0)).trans hx140_0
                              replace hx140_1 := (HB.out.cell (World.block_lt_of_cell? w _ hx140_1)).trans hx140_1
                              replace p140 := eq_true p140
                              replace q140 := eq_true q140
                              go_wp2_with (first | ((with_reducible refine gate_builtin (b := .append) (xs := #[.tmp 70, .tmp 73]) rfl ?_); (try (refine gate_guard (by rfl) ?_; dsimp only)); at_builtin; refine Kd.R_append (Kd.int .u8) (w0 := w) w.heap.size rfl (.tmp 70) (.tmp 73) 24 5 (.int .u8 0) 1 rfl Try.underlying24 info5 rfl (by decide) (by omega) u5 x5_2 (((rd_T29 l0 x6_2).f0) % 256) [.int .u8 (((rd_T29 l0 x6_2).f0) % 256)] (fun k_ => some k_ ≠ (v135 : Value).ownBlock) (fun _ => False) rfl rfl ?aP (fun _ hk => hk.elim) ?aF ?aO ?aB ?aS ?aL ?_; (case aP => exact rfl); (case aB => exact (by repeat (first | (with_reducible first | exact HB.out | apply below_alloc | apply pw_below_drewN | apply below_drew1) | exact HB.out))); (case aF => exact (fun k_ hk => Kd.fresh' (Kd.R_lt (by (with_reducible repeat (first | apply Kd.R_alloc | apply Kd.R_drewN | apply Kd.R_drew)); exact HO_3.out)) k_ hk)); (case aO => exact (by (with_reducible repeat (first | apply Kd.R_alloc | apply Kd.R_drewN | apply Kd.R_drew)); exact HO_5.out)); (case aS => exact (below_size (by repeat (first | (with_reducible first | exact HB.out | apply below_alloc | apply pw_below_drewN | apply below_drew1) | exact HB.out)))); (case aL => have := LMc30.out; omega); intro v145 w31 ho hb hg hat; rw [← Ny144.out] at ho; have n0_ := Aside0.mk (Kd.R_after (ok := (fun _ => True)) (by (with_reducible repeat (first | apply Kd.R_alloc | apply Kd.R_drewN | apply Kd.R_drew)); exact Kd.R_mono HO_3.out (fun _ hk => ⟨trivial, hk⟩)) hg hat); have n1_ := Aside0.mk (hb); have n2_ := Aside0.mk (ho); clear HO_3; clear HB; clear HO_5; have HO_3 := n0_; have HB := n1_; have HO146 := n2_; clear n0_ n1_ n2_; clear ho hb hg hat))
                              go_roundg kj17
                              case measure => have := HJ1.out; have := HK2.out; have := HJ17.out; omega
                              case rel => exact ⟨(y144), (wrap64 (x6_2 + 1)), (by first | rfl | (simp; done) | (simp [*]; done)), H', ⟨by have := HJ1.out; have := HK2.out; have := HJ17.out; omega⟩, ⟨by (with_reducible repeat (first | apply Kd.R_alloc | apply Kd.R_drewN | apply Kd.R_drew)); exact Kd.R_mono HO_3.out (fun _ hk => hk.2)⟩, ⟨by (with_reducible repeat (first | apply Kd.R_alloc | apply Kd.R_drewN | apply Kd.R_drew)); exact HO146.out⟩, ⟨by repeat (first | (with_reducible first | exact HB.out | apply below_alloc | apply pw_below_drewN | apply below_drew1) | exact HB.out)⟩⟩
                            · rw [if_neg c30] at H
                              exact absurd H (by simp)
                        · rw [if_neg c25] at H
                          exact absurd H (by simp)
                      · rw [if_neg c24] at H
                        exact absurd H (by simp)
              · rw [if_neg c17] at H
                have c17b0 : decide (x6_2 < (l0.length : Int)) = false := decide_eq_false c17
                clear c17
                by_cases c32 : t134 = 0
                · rw [if_pos c32] at H
                  have c32b0 : (t134 == 0) = true := beq_iff_eq.mpr c32
                  have c32b1 : (t134 != 0) = false := bne_eq_false_iff_eq.mpr c32
                  clear c32
                  obtain rfl := Option.some.inj H
                  have hcv33 := own_string (P := Try.prog) Try.underlying24 Try.underlying5 Try.underlying9 (Kd.own_of_R HO_3.out)
                  have hcv34 := own_string (P := Try.prog) Try.underlying24 Try.underlying5 Try.underlying9 (Kd.own_of_R HO_5.out)
                  go_wp2
                  go_ret
                  exact ⟨by first | rfl | (simp [errW_none, errW_some] <;> rfl) | (simp [*, errW_none, errW_some] <;> rfl), by repeat (first | (with_reducible first | exact HB.out | apply below_alloc | apply pw_below_drewN | apply below_drew1) | exact HB.out)⟩
                · rw [if_neg c32] at H
                  have c32b0 : (t134 == 0) = false := beq_eq_false_iff_ne.mpr c32
                  have c32b1 : (t134 != 0) = true := bne_iff_ne.mpr c32
                  obtain rfl := Option.some.inj H
                  go_wp2
                  go_ret
                  exact ⟨by first | rfl | (simp [errW_none, errW_some] <;> rfl) | (simp [*, errW_none, errW_some] <;> rfl), by repeat (first | (with_reducible first | exact HB.out | apply below_alloc | apply pw_below_drewN | apply below_drew1) | exact HB.out)⟩

end Go.Proofs.Ytfglfhanikpafaa.Q
