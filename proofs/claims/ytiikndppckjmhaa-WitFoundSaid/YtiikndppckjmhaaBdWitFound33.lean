/- Contracts, part 33: texts of this session, one behind the other. -/
import Derived.Test.YtiikndppckjmhaaBdWitFound32
import Derived.Test.YtiikndppckjmhaaAmBx
import Derived.Test.YtiikndppckjmhaaAmV
import Derived.Test.YtiikndppckjmhaaAmX
import Derived.Test.YtiikndppckjmhaaAmRf
/- Contract: what a thread has grows by its own Lock alone, and shrinks by its own Unlock alone. -/
namespace Go.Proofs.Ytiikndppckjmhaa.Am
set_option autoImplicit false
set_option linter.unusedVariables false
set_option linter.unusedSimpArgs false
set_option maxRecDepth 10000
set_option pp.maxSteps 3000
set_option pp.proofs false
/-- what a step makes of the owners -/
theorem own_step {p : Pg} {c : Cfg} (hp : PgOk p) (hc : OkC p c) (who : Int) (way : Bool) :
    (stepC p c who way).own = c.own ∨ (∃ a, a < 16 ∧ (atN p c who).1 = 3 ∧ 0 ≤ who ∧ c.own.getD a 0 = 0 ∧ (stepC p c who way).own = c.own.set a (who.toNat + 1)) ∨
      ∃ a, a < 16 ∧ (atN p c who).1 = 4 ∧ 0 ≤ who ∧ c.own.getD a 0 = who.toNat + 1 ∧ (stepC p c who way).own = c.own.set a 0 := by
  unfold stepC
  split
  · rename_i he
    have hl : lives c who = true := by
      unfold enab at he
      simp only [Bool.and_eq_true] at he
      exact he.1
    have eN : atN p c who = ndAt p c who := by unfold atN; rw [if_pos hl]
    obtain ⟨t, th, f, L, rfl, hth, hs0, hf1, hL, hy, hLm, hym, hmay⟩ := nd_in hp hc hl
    rw [eN, thAt_nat, hth]
    unfold enab at he
    rw [hl, Bool.true_and] at he
    obtain ⟨y, hyy⟩ : ∃ y, y = ndAt p c (t : Int) := ⟨_, rfl⟩
    rw [← hyy] at hmay he ⊢
    simp only [Int.toNat_natCast]
    have hlk := hp.l
    unfold doC setTh
    simp only
    split
    · exact .inl rfl
    · split
      · rename_i h3
        rw [if_pos h3] at he
        have := may_lock hp hmay (.inl h3)
        exact .inr (.inl ⟨y.2.1.toNat, by omega, h3, by omega, by simpa using he, rfl⟩)
      · split
        · rename_i h4
          have := may_lock hp hmay (.inr h4)
          by_cases ho : c.own.getD y.2.1.toNat 0 = t + 1
          · refine .inr (.inr ⟨y.2.1.toNat, by omega, h4, by omega, ho, ?_⟩)
            show (if _ then _ else _) = _
            rw [if_pos ho]
          · refine .inl ?_
            show (if _ then _ else _) = _
            rw [if_neg ho]
        · split
          · exact .inl rfl
          · split <;> exact .inl rfl
  · exact .inl rfl
theorem grows {p : Pg} {c : Cfg} (hp : PgOk p) (hc : OkC p c) (who : Int) (way : Bool) (t : Nat) (h : ¬ ((t : Int) = who ∧ (atN p c who).1 = 3)) (i : Nat) (hb : (held (stepC p c who way) (t : Int)).testBit i = true) : (held c (t : Int)).testBit i = true := by
  rw [held_bit] at hb ⊢
  simp only [decide_eq_true_eq] at hb ⊢
  obtain ⟨b1, b2, b3⟩ := hb
  refine ⟨b1, b2, ?_⟩
  have ho := hc.own
  rcases own_step hp hc who way with e | ⟨a, h1, h2, h3, h4, e⟩ | ⟨a, h1, h2, h3, h4, e⟩
  · rw [e] at b3; exact b3
  · rw [e, List.getD_eq_getElem?_getD, List.getElem?_set] at b3
    by_cases ha : a = i
    · rw [if_pos ha, if_pos (by omega)] at b3
      simp only [Option.getD_some] at b3
      exact absurd ⟨by omega, h2⟩ h
    · rw [if_neg ha, ← List.getD_eq_getElem?_getD] at b3
      exact b3
  · rw [e, List.getD_eq_getElem?_getD, List.getElem?_set] at b3
    by_cases ha : a = i
    · rw [if_pos ha, if_pos (by omega)] at b3
      simp only [Option.getD_some] at b3
      omega
    · rw [if_neg ha, ← List.getD_eq_getElem?_getD] at b3
      exact b3
theorem shrinks {p : Pg} {c : Cfg} (hp : PgOk p) (hc : OkC p c) (who : Int) (way : Bool) (t : Nat) (h : ¬ ((t : Int) = who ∧ (atN p c who).1 = 4)) (i : Nat) (hb : (held c (t : Int)).testBit i = true) : (held (stepC p c who way) (t : Int)).testBit i = true := by
  rw [held_bit] at hb ⊢
  simp only [decide_eq_true_eq] at hb ⊢
  obtain ⟨b1, b2, b3⟩ := hb
  refine ⟨b1, b2, ?_⟩
  have ho := hc.own
  rcases own_step hp hc who way with e | ⟨a, h1, h2, h3, h4, e⟩ | ⟨a, h1, h2, h3, h4, e⟩
  · rw [e]; exact b3
  · rw [e, List.getD_eq_getElem?_getD, List.getElem?_set]
    by_cases ha : a = i
    · subst ha; rw [h4] at b3; omega
    · rw [if_neg ha, ← List.getD_eq_getElem?_getD]
      exact b3
  · rw [e, List.getD_eq_getElem?_getD, List.getElem?_set]
    by_cases ha : a = i
    · subst ha; rw [h4] at b3; exact absurd ⟨by omega, h2⟩ h
    · rw [if_neg ha, ← List.getD_eq_getElem?_getD]
      exact b3

end Go.Proofs.Ytiikndppckjmhaa.Am

/- Contracts: a config is the same as itself. -/
namespace Go.Proofs.Ytiikndppckjmhaa.Am
set_option autoImplicit false
set_option linter.unusedVariables false
set_option linter.unusedSimpArgs false
set_option maxRecDepth 10000
set_option pp.maxSteps 3000
set_option pp.proofs false
end Go.Proofs.Ytiikndppckjmhaa.Am

/- Contract: which way a pick goes counts at a Branch alone. -/
namespace Go.Proofs.Ytiikndppckjmhaa.Am
set_option autoImplicit false
set_option linter.unusedVariables false
set_option linter.unusedSimpArgs false
set_option maxRecDepth 10000
set_option pp.maxSteps 3000
set_option pp.proofs false


end Go.Proofs.Ytiikndppckjmhaa.Am

/- Contracts: who stands at an access, who races, who does first. -/
namespace Go.Proofs.Ytiikndppckjmhaa.Am
set_option autoImplicit false
set_option linter.unusedVariables false
set_option linter.unusedSimpArgs false
set_option maxRecDepth 10000
set_option pp.maxSteps 3000
set_option pp.proofs false
theorem accessN (n : Nd) : CallW Try.prog G0 88 [ndV n] [] (fun r st' => r = .tup [.i (.int .i64 n.2.1), .i (.bool (decide (n.1 = 2))), .i (.bool (decide (n.1 = 1) || decide (n.1 = 2)))] ∧ st' = []) := by
  refine call_of_bodyF 0 (Nat.le_refl _) Try.func88 rfl (fun a w => Try.call88 a w) (wpx_ok (own := own0) _ _ _ ?_)
  repeat ((conv => whnf); first | refine Br.t ?_ | refine Br.f ?_ | refine ⟨rfl, ?_⟩)
  conv => whnf
  refine draw_ok (own := own0) [] [] [] rfl (by kernel_rfl) (Nat.zero_le _) ?_
  repeat ((conv => whnf); first | refine Br.t ?_ | refine Br.f ?_ | refine ⟨rfl, ?_⟩)
  conv => whnf
  refine Br.mk (fun h => ?_) (fun h => ?_)
  · repeat ((conv => whnf); first | refine Br.t ?_ | refine Br.f ?_ | refine ⟨rfl, ?_⟩)
    conv => whnf
    refine ⟨by repeat ((conv => whnf); first | exact trivial | refine ⟨rfl, ?_⟩), trivial, ?_⟩
    conv => whnf
    refine fin (target := []) rfl (Nat.zero_le _) (by simp) ?_ rfl
    simp at h
    simp [h]
  · repeat ((conv => whnf); first | refine Br.t ?_ | refine Br.f ?_ | refine ⟨rfl, ?_⟩)
    conv => whnf
    refine ⟨by repeat ((conv => whnf); first | exact trivial | refine ⟨rfl, ?_⟩), trivial, ?_⟩
    conv => whnf
    refine fin (target := []) rfl (Nat.zero_le _) (by simp) ?_ rfl
    simp at h
    simp [h]
    rfl
abbrev Tc := Nat × Int × Bool
def encT (x : Tc) : List I := [.int .i64 (x.1 : Nat), .int .i64 x.2.1, .bool x.2.2]
def tcV (x : Tc) : V := .agg ((encT x).map .i)
def tcB (x : Tc) : Ob := .row 0 3 false [(encT x).map .i]
def isAcc (p : Pg) (c : Cfg) (t : Nat) : Bool := lives c (t : Int) && (decide ((atN p c t).1 = 1) || decide ((atN p c t).1 = 2))
def touchL (p : Pg) (c : Cfg) : Nat → List Tc
  | 0 => []
  | t + 1 => touchL p c t ++ if isAcc p c t = true then [(t, (atN p c t).2.1, decide ((atN p c t).1 = 2))] else []
def touches (p : Pg) (c : Cfg) : List Tc := touchL p c c.ths.length
theorem touchL_len (p : Pg) (c : Cfg) : ∀ t, (touchL p c t).length ≤ t
  | 0 => Nat.le_refl _
  | t + 1 => by
    have := touchL_len p c t
    rw [touchL, List.length_append]
    split
    · simp; omega
    · simp; omega
def tcR (L : List Tc) : Ob := .row 1 3 false (lift (L.map encT))
theorem tcR_cl (p : Pg) (c : Cfg) (L : List Tc) (m : Nat) : ∀ o ∈ [pgB p, cfgB c, tcR L], o.cl m := by
  intro o ho
  simp only [List.mem_cons, List.not_mem_nil, or_false] at ho
  rcases ho with rfl | rfl | rfl
  · exact pgB_cl p m
  · exact cfgB_cl c m
  · exact row_cl 1 3 (L.map encT) m _ (by simp [tcR])
def tcS (c : Cfg) (L : List Tc) (t : Nat) : List V := mkS 44 [(2, .ptr 0 0 0 0), (3, .ptr 1 0 0 0), (5, .ref 2 1 0 L.length), (14, .i (.int .i64 c.ths.length)), (15, .i (.int .i64 t))]
set_option maxHeartbeats 1000000 in
theorem touches_ok (p : Pg) (hp : PgOk p) (c : Cfg) (hc : OkC p c) : CallW Try.prog G0 47 [pgV p, cfgV c] [] (fun r st' => r = .i (.sl ((touches p c).map encT)) ∧ st' = []) := by
  refine call_of_bodyF 0 (Nat.le_refl _) Try.func47 rfl (fun a w => Try.call47 a w) (wpx_ok (own := own0) _ _ _ ?_)
  have hn := hc.n.2
  repeat ((conv => whnf); first | refine Br.t ?_ | refine Br.f ?_ | refine ⟨rfl, ?_⟩)
  conv => whnf
  refine loop_ok (α := Nat) (fun t => ⟨tcS c (touchL p c t) t, [pgB p, cfgB c, tcR (touchL p c t)]⟩)
    (fun t => t ≤ c.ths.length) (fun t => c.ths.length - t) 0 (Nat.zero_le _) ((Le.nil (n := 0) 5 3 rfl).trans (Le.slots (by simp [leS, mkS, tcS, touchL]))) (fun t ht => wpx_ok (own := own0) _ _ _ ?_)
  have hL := touchL_len p c t
  repeat ((conv => whnf); first | refine Br.t ?_ | refine Br.f ?_ | refine ⟨rfl, ?_⟩)
  conv => whnf
  refine Br.mk (fun g => ?_) (fun g => ?_)
  · have g : t < c.ths.length := by simpa using g
    have ca := at_ok p hp c hc (t : Int)
    obtain ⟨y, hy⟩ : ∃ y, y = atN p c t := ⟨_, rfl⟩
    obtain ⟨q, hq⟩ : ∃ q, q = lives c (t : Int) := ⟨_, rfl⟩
    have eT : touchL p c (t + 1) = touchL p c t ++ if (q && (decide (y.1 = 1) || decide (y.1 = 2))) = true then [(t, y.2.1, decide (y.1 = 2))] else [] := by rw [touchL, isAcc, hy, hq]
    rw [← hy, ← hq] at ca
    have cx := accessN y
    obtain ⟨a, ha⟩ : ∃ a, a = (decide (y.1 = 1) || decide (y.1 = 2)) := ⟨_, rfl⟩
    rw [← ha] at cx eT
    repeat ((conv => whnf); first | refine Br.t ?_ | refine Br.f ?_ | refine ⟨rfl, ?_⟩)
    conv => whnf
    refine CallW.mono (ca.pure _ rfl rfl) ?_
    rintro r st' ⟨rfl, rfl⟩
    repeat ((conv => whnf); first | refine Br.t ?_ | refine Br.f ?_ | refine ⟨rfl, ?_⟩)
    conv => whnf
    refine CallW.mono (cx.pure _ rfl rfl) ?_
    rintro r st' ⟨rfl, rfl⟩
    cases q with
    | false =>
      rw [Bool.false_and, if_neg (by simp), List.append_nil] at eT
      repeat ((conv => whnf); first | refine Br.t ?_ | refine Br.f ?_ | refine ⟨rfl, ?_⟩)
      conv => whnf
      refine ⟨t + 1, by omega, by omega, Le.back (fun _ => 0) (by intro id hid; rfl) (by simp) rfl (tcR_cl p c _ _) ?_ ?_⟩
      · rw [eT]
        simp [leS, mkS, tcS, V.up]
        exact i64_id (by omega) (by omega)
      · rw [eT]
        simp only [upSt, Ob.up, map_up_lift, tcR]
        rfl
    | true =>
      cases a with
      | false =>
        rw [Bool.true_and, if_neg (by simp), List.append_nil] at eT
        repeat ((conv => whnf); first | refine Br.t ?_ | refine Br.f ?_ | refine ⟨rfl, ?_⟩)
        conv => whnf
        refine ⟨t + 1, by omega, by omega, Le.back (fun _ => 0) (by intro id hid; rfl) (by simp) rfl (tcR_cl p c _ _) ?_ ?_⟩
        · rw [eT]
          simp [leS, mkS, tcS, V.up]
          exact i64_id (by omega) (by omega)
        · rw [eT]
          simp only [upSt, Ob.up, map_up_lift, tcR]
          rfl
      | true =>
        rw [Bool.true_and, if_pos rfl] at eT
        repeat ((conv => whnf); first | refine Br.t ?_ | refine Br.f ?_ | refine ⟨rfl, ?_⟩)
        conv => whnf
        refine ⟨⟨by intro cs hcs; simp at hcs; subst hcs; rfl, by simp [lift], by show ((touchL p c t).length + 1) * 24 ≤ _; omega, len_mx (by simp [lift]; omega)⟩, ?_⟩
        repeat ((conv => whnf); first | refine Br.t ?_ | refine Br.f ?_ | refine ⟨rfl, ?_⟩)
        conv => whnf
        refine ⟨t + 1, by omega, by omega, Le.back (fun id => if id = 2 then 1 else 0) (by intro id hid; simp at hid) (by simp) rfl (tcR_cl p c _ _) ?_ ?_⟩
        · rw [eT]
          simp [leS, mkS, tcS, V.up, lift]
          exact i64_id (by omega) (by omega)
        · rw [eT]
          simp only [upSt, Ob.up, map_up_lift, List.map_append, lift_app, tcR, List.cons_append, List.nil_append]
          rfl
  · have g : t = c.ths.length := by simp at g; omega
    subst g
    repeat ((conv => whnf); first | refine Br.t ?_ | refine Br.f ?_ | refine ⟨rfl, ?_⟩)
    conv => whnf
    refine ⟨Nat.zero_le _, rfl, (touches p c).map encT, rfl, ?_⟩
    refine fin (target := []) rfl (Nat.zero_le _) (by simp) ?_ rfl
    simp [touches, List.take_of_length_le]
def agB (x y : Tc) : Bool := decide (x.1 ≠ y.1) && (decide (x.2.1 = y.2.1) && (x.2.2 || y.2.2))
theorem against_ok (x y : Tc) : CallW Try.prog G0 84 [tcV x, tcV y] [] (fun r st' => r = .i (.bool (agB x y)) ∧ st' = []) := by
  refine call_of_bodyF 0 (Nat.le_refl _) Try.func84 rfl (fun a w => Try.call84 a w) (wpx_ok (own := own0) _ _ _ ?_)
  obtain ⟨x1, x2, x3⟩ := x
  obtain ⟨y1, y2, y3⟩ := y
  repeat ((conv => whnf); first | refine Br.t ?_ | refine Br.f ?_ | refine ⟨rfl, ?_⟩)
  conv => whnf
  refine Br.mk (fun h => ?_) (fun h => ?_)
  · have u1 : x1 ≠ y1 := by simp at h; omega
    repeat ((conv => whnf); first | refine Br.t ?_ | refine Br.f ?_ | refine ⟨rfl, ?_⟩)
    conv => whnf
    refine Br.mk (fun h2 => ?_) (fun h2 => ?_)
    · have u2 : x2 = y2 := by simpa using h2
      cases x3 with
      | true =>
        repeat ((conv => whnf); first | refine Br.t ?_ | refine Br.f ?_ | refine ⟨rfl, ?_⟩)
        conv => whnf
        refine fin (target := []) rfl (Nat.zero_le _) (by simp) ?_ rfl
        simp [agB, u1, u2]
      | false =>
        repeat ((conv => whnf); first | refine Br.t ?_ | refine Br.f ?_ | refine ⟨rfl, ?_⟩)
        conv => whnf
        refine fin (target := []) rfl (Nat.zero_le _) (by simp) ?_ rfl
        simp [agB, u1, u2]
    · have u2 : x2 ≠ y2 := by simpa using h2
      repeat ((conv => whnf); first | refine Br.t ?_ | refine Br.f ?_ | refine ⟨rfl, ?_⟩)
      conv => whnf
      refine fin (target := []) rfl (Nat.zero_le _) (by simp) ?_ rfl
      simp [agB, u1, u2]
  · have u1 : x1 = y1 := by simp at h; omega
    repeat ((conv => whnf); first | refine Br.t ?_ | refine Br.f ?_ | refine ⟨rfl, ?_⟩)
    conv => whnf
    refine fin (target := []) rfl (Nat.zero_le _) (by simp) ?_ rfl
    simp [agB, u1]
def firstR : List Tc → Option (Tc × Tc)
  | [] => none
  | x :: r => match r.find? (fun y => agB x y) with | some y => some (x, y) | none => firstR r
def firstT (o : Option (Tc × Tc)) : List V := match o with
  | some (x, y) => [.i (.int .i64 (x.1 : Nat)), .i (.int .i64 (y.1 : Nat)), .i (.int .i64 x.2.1), .i (.bool true)]
  | none => [.i (.int .i64 0), .i (.int .i64 0), .i (.int .i64 0), .i (.bool false)]
def fsS (L : List Tc) (i : Nat) (x : List (Nat × V)) : List V := mkS 43 ([(2, .ptr 0 0 0 0), (3, .ptr 1 0 0 0), (8, .i (.sl (L.map encT))), (16, .i (.sl (L.map encT))), (17, .i (.int .i64 L.length)), (18, .i (.int .i64 i))] ++ x)
theorem fsB_cl (p : Pg) (c : Cfg) (x : Tc) (m : Nat) : ∀ o ∈ [pgB p, cfgB c, tcB x], o.cl m := by
  intro o ho
  simp only [List.mem_cons, List.not_mem_nil, or_false] at ho
  rcases ho with rfl | rfl | rfl
  · exact pgB_cl p m
  · exact cfgB_cl c m
  · intro cs hcs; simp only [List.mem_singleton] at hcs; subst hcs; rfl
set_option maxHeartbeats 1000000 in
theorem first_in (p : Pg) (c : Cfg) (L : List Tc) (i : Nat) (x : Tc) (r : List Tc) (hr : r.length ≤ 8) (Q : Exit → S → Prop)
    (hyes : ∀ y, r.find? (fun y => agB x y) = some y → Q .ret ⟨mkS 43 [(4, .i (.int .i64 (x.1 : Nat))), (5, .i (.int .i64 (y.1 : Nat))), (6, .i (.int .i64 x.2.1)), (7, .i (.bool true))], [pgB p, cfgB c]⟩)
    (hno : r.find? (fun y => agB x y) = none → Q (.exit 2) ⟨fsS L i [], [pgB p, cfgB c]⟩) :
    W Try.prog G0 0 (.loop (lp Try.f44 1)) Q ⟨fsS L i [(10, .ptr 2 0 0 0), (26, .i (.sl (r.map encT))), (27, .i (.int .i64 r.length)), (28, .i (.int .i64 0))], [pgB p, cfgB c, tcB x]⟩ := by
  refine W.weak (loop_ok (α := Nat) (fun j => ⟨fsS L i [(10, .ptr 2 0 0 0), (26, .i (.sl (r.map encT))), (27, .i (.int .i64 r.length)), (28, .i (.int .i64 j))], [pgB p, cfgB c, tcB x]⟩)
    (fun j => j ≤ r.length ∧ (r.drop j).find? (fun y => agB x y) = r.find? fun y => agB x y) (fun j => r.length - j) 0 ⟨Nat.zero_le _, rfl⟩ (Le.refl _ _) (fun j hj => wpx_ok (own := own0) _ _ _ ?_))
  obtain ⟨h1, h2⟩ := hj
  repeat ((conv => whnf); first | refine Br.t ?_ | refine Br.f ?_ | refine ⟨rfl, ?_⟩)
  conv => whnf
  refine Br.mk (fun g => ?_) (fun g => ?_)
  · have g : j < r.length := by simpa using g
    obtain ⟨y, hy⟩ : ∃ y, y = r[j] := ⟨_, rfl⟩
    have ey : (r.map encT).getD (j : Int).toNat [] = encT y := by rw [hy]; exact getD_enc g
    have ed : r.drop j = y :: r.drop (j + 1) := by rw [hy]; exact List.drop_eq_getElem_cons g
    rw [ed, List.find?_cons] at h2
    have cg := against_ok x y
    obtain ⟨q, hq⟩ : ∃ q, q = agB x y := ⟨_, rfl⟩
    rw [← hq] at cg h2
    repeat ((conv => whnf); first | refine Br.t ?_ | refine Br.f ?_ | refine ⟨rfl, ?_⟩)
    conv => whnf
    rw [ey]
    refine ⟨⟨by omega, by simp; omega, rfl⟩, ?_⟩
    repeat ((conv => whnf); first | refine Br.t ?_ | refine Br.f ?_ | refine ⟨rfl, ?_⟩)
    conv => whnf
    refine CallW.mono (cg.pure _ rfl rfl) ?_
    rintro r0 st' ⟨rfl, rfl⟩
    cases q with
    | true =>
      simp only at h2
      repeat ((conv => whnf); first | refine Br.t ?_ | refine Br.f ?_ | refine ⟨rfl, ?_⟩)
      conv => whnf
      refine draw_ok (own := own0) [] [] [] rfl (by kernel_rfl) (Nat.zero_le _) ?_
      repeat ((conv => whnf); first | refine Br.t ?_ | refine Br.f ?_ | refine ⟨rfl, ?_⟩)
      conv => whnf
      refine ⟨by repeat ((conv => whnf); first | exact trivial | refine ⟨rfl, ?_⟩), trivial, ?_⟩
      conv => whnf
      repeat ((conv => whnf); first | refine Br.t ?_ | refine Br.f ?_ | refine ⟨rfl, ?_⟩)
      conv => whnf
      refine ⟨_, Le.back (s := ⟨mkS 43 [(4, .i (.int .i64 (x.1 : Nat))), (5, .i (.int .i64 (y.1 : Nat))), (6, .i (.int .i64 x.2.1)), (7, .i (.bool true))], [pgB p, cfgB c]⟩) (fun _ => 0) (by intro id hid; rfl) (by simp) rfl (B2_cl p c _) ?_ rfl, hyes y h2.symm⟩
      simp [leS, mkS, fsS, V.up]
    | false =>
      simp only at h2
      repeat ((conv => whnf); first | refine Br.t ?_ | refine Br.f ?_ | refine ⟨rfl, ?_⟩)
      conv => whnf
      refine ⟨j + 1, ⟨by omega, h2⟩, by omega, Le.back (fun _ => 0) (by intro id hid; rfl) (by simp) rfl (fsB_cl p c x _) ?_ rfl⟩
      simp [leS, mkS, fsS, V.up]
      exact i64_id (by omega) (by omega)
  · have g : j = r.length := by simp at g; omega
    subst g
    rw [List.drop_length, List.find?_nil] at h2
    repeat ((conv => whnf); first | refine Br.t ?_ | refine Br.f ?_ | refine ⟨rfl, ?_⟩)
    conv => whnf
    refine ⟨_, Le.back (s := ⟨fsS L i [], [pgB p, cfgB c]⟩) (fun _ => 0) (by intro id hid; rfl) (by simp) rfl (B2_cl p c _) ?_ rfl, hno h2.symm⟩
    simp [leS, mkS, fsS, V.up]
set_option maxHeartbeats 1000000 in
theorem first_ok (p : Pg) (hp : PgOk p) (c : Cfg) (hc : OkC p c) : CallW Try.prog G0 44 [pgV p, cfgV c] [] (fun r st' => r = .tup (firstT (firstR (touches p c))) ∧ st' = []) := by
  refine call_of_bodyF 0 (Nat.le_refl _) Try.func44 rfl (fun a w => Try.call44 a w) (wpx_ok (own := own0) _ _ _ ?_)
  have ct := touches_ok p hp c hc
  have hlen : (touches p c).length ≤ 8 := Nat.le_trans (touchL_len p c _) hc.n.2
  obtain ⟨L, hL⟩ : ∃ L, L = touches p c := ⟨_, rfl⟩
  rw [← hL] at ct hlen ⊢
  repeat ((conv => whnf); first | refine Br.t ?_ | refine Br.f ?_ | refine ⟨rfl, ?_⟩)
  conv => whnf
  refine CallW.mono (ct.pure _ rfl rfl) ?_
  rintro r st' ⟨rfl, rfl⟩
  repeat ((conv => whnf); first | refine Br.t ?_ | refine Br.f ?_ | refine ⟨rfl, ?_⟩)
  conv => whnf
  refine loop_ok (α := Nat) (fun i => ⟨fsS L i [], [pgB p, cfgB c]⟩)
    (fun i => i ≤ L.length ∧ firstR (L.drop i) = firstR L) (fun i => L.length - i) 0 ⟨Nat.zero_le _, rfl⟩ (Le.slots (by simp [leS, mkS, fsS])) (fun i hi => wpx_ok (own := own0) _ _ _ ?_)
  obtain ⟨h1, h2⟩ := hi
  repeat ((conv => whnf); first | refine Br.t ?_ | refine Br.f ?_ | refine ⟨rfl, ?_⟩)
  conv => whnf
  refine Br.mk (fun g => ?_) (fun g => ?_)
  · have g : i < L.length := by simpa using g
    obtain ⟨x, hx⟩ : ∃ x, x = L[i] := ⟨_, rfl⟩
    have ex : (L.map encT).getD (i : Int).toNat [] = encT x := by rw [hx]; exact getD_enc g
    have ed : L.drop i = x :: L.drop (i + 1) := by rw [hx]; exact List.drop_eq_getElem_cons g
    rw [ed, firstR] at h2
    repeat ((conv => whnf); first | refine Br.t ?_ | refine Br.f ?_ | refine ⟨rfl, ?_⟩)
    conv => whnf
    rw [ex]
    refine ⟨⟨by omega, by simp; omega, rfl⟩, ?_⟩
    repeat ((conv => whnf); first | refine Br.t ?_ | refine Br.f ?_ | refine ⟨rfl, ?_⟩)
    conv => whnf
    rw [i64_id (by omega) (by omega)]
    have es : List.take ((((L.map encT).length : Nat) : Int).toNat - ((i : Int) + 1).toNat) (List.drop ((i : Int) + 1).toNat (L.map encT)) = (L.drop (i + 1)).map encT := by
      rw [show ((i : Int) + 1).toNat = i + 1 by omega, List.map_drop, List.take_of_length_le (by simp)]
    rw [es]
    refine ⟨⟨by omega, by simp; omega, Int.le_refl _, by intro cs hcs; simp only [List.mem_map] at hcs; obtain ⟨y, _, rfl⟩ := hcs; rfl⟩, ?_⟩
    repeat ((conv => whnf); first | refine Br.t ?_ | refine Br.f ?_ | refine ⟨rfl, ?_⟩)
    conv => whnf
    refine W.le (Le.slots (sl' := fsS L i [(10, .ptr 2 0 0 0), (26, .i (.sl ((L.drop (i + 1)).map encT))), (27, .i (.int .i64 (L.drop (i + 1)).length)), (28, .i (.int .i64 0))]) (by simp [leS, mkS, fsS])) (first_in p c L i x (L.drop (i + 1)) (by simp; omega) _ (fun y hf => ?_) (fun hf => ?_))
    · rw [hf] at h2
      simp only at h2
      rw [← h2]
      repeat ((conv => whnf); first | refine Br.t ?_ | refine Br.f ?_ | refine ⟨rfl, ?_⟩)
      conv => whnf
      refine fin (target := []) rfl (Nat.zero_le _) (by simp) rfl rfl
    · rw [hf] at h2
      simp only at h2
      repeat ((conv => whnf); first | refine Br.t ?_ | refine Br.f ?_ | refine ⟨rfl, ?_⟩)
      conv => whnf
      refine ⟨i + 1, ⟨by omega, h2⟩, by omega, Le.slots ?_⟩
      simp [leS, mkS, fsS]
      exact i64_id (by omega) (by omega)
  · have g : i = L.length := by simp at g; omega
    subst g
    rw [List.drop_length, firstR] at h2
    rw [← h2]
    repeat ((conv => whnf); first | refine Br.t ?_ | refine Br.f ?_ | refine ⟨rfl, ?_⟩)
    conv => whnf
    refine fin (target := []) rfl (Nat.zero_le _) (by simp) rfl rfl
end Go.Proofs.Ytiikndppckjmhaa.Am

/- Contracts: the example of Race; a program's config behind picks; no lock is two threads'. -/
namespace Go.Proofs.Ytiikndppckjmhaa.Am
set_option autoImplicit false
set_option linter.unusedVariables false
set_option linter.unusedSimpArgs false
set_option maxRecDepth 10000
set_option pp.maxSteps 3000
set_option pp.proofs false
end Go.Proofs.Ytiikndppckjmhaa.Am

/- Contracts: going along a script; what a script comes to. -/
namespace Go.Proofs.Ytiikndppckjmhaa.Am
set_option autoImplicit false
set_option linter.unusedVariables false
set_option linter.unusedSimpArgs false
set_option maxRecDepth 10000
set_option pp.maxSteps 3000
set_option pp.proofs false
def lB (l : List (Int × Bool)) : Ob := .row 0 1 false [[.i (.sl (l.map encP))]]
theorem lB_cl (l : List (Int × Bool)) (m : Nat) : (lB l).cl m := by intro cs hcs; simp only [List.mem_singleton] at hcs; subst hcs; rfl
def fnAl (a b : Nat) : V := .fn (.func 91) [] [.ptr a 0 0 0, .ptr b 0 0 0]
theorem along_ok (p : Pg) (l : List (Int × Bool)) : CallW Try.prog G0 55 [pgV p, .i (.sl (l.map encP))] [] (fun r st' => r = fnAl 0 1 ∧ st' = [pgB p, lB l]) := by
  refine call_of_body Try.func55 rfl (fun a w => Try.call55 a w) (wpx_ok (own := own0) _ _ _ ?_)
  repeat ((conv => whnf); first | refine Br.t ?_ | refine Br.f ?_ | refine ⟨rfl, ?_⟩)
  conv => whnf
  rfl
theorem hG0 : ∀ g, G0 g = none := fun _ => rfl
def Y0 : Yt := fun _ _ _ _ => False
theorem y0_ok {P : Program} {ro : Option Nat} {cx : Cx} : YOK P ro cx Y0 := fun _ _ _ _ h => h.elim
theorem along_in (p : Pg) (l : List (Int × Bool)) (big : List Ob) : CallW Try.prog G0 55 [pgV p, .i (.sl (l.map encP))] big (fun r st' => r = fnAl big.length (big.length + 1) ∧ st' = big ++ [pgB p, lB l]) := by
  refine (CallW.rise (bargs := [pgV p, .i (.sl (l.map encP))]) (big := big) [] [] (along_ok p l) rfl (by simp) (by simp) rfl (by simp) (by simp) rfl (fun j s v hs hv => .inl ⟨by rcases j with _ | _ | j <;> simp at hs <;> subst hs <;> rfl, by rcases j with _ | _ | j <;> simp at hs hv <;> subst hs <;> subst hv <;> rfl⟩) (.inl rfl)).mono ?_
  rintro r st' ⟨r0, s0, ⟨rfl, rfl⟩, rfl, rfl⟩
  refine ⟨?_, ?_⟩
  · simp [fnAl, V.ren, V.ren.renAll, fm]
  · simp [putAll]
    exact ⟨rfl, rfl⟩
/-- the outer store of Run: what stands beside the iterator -/
def ruB (p : Pg) (l : List (Int × Bool)) (c : Cfg) : List Ob := [pgB p, zeroB, cfgB c, pgB p, lB l]
def alS (l : List (Int × Bool)) (y : V) (a b k : Nat) (i : Nat) : List V := mkS 39 [(0, y), (1, .ptr a 0 0 0), (2, .ptr b 0 0 0), (4, .ptr k 0 0 0), (21, .i (.sl (l.map encP))), (22, .i (.int .i64 l.length)), (23, .i (.int .i64 i))]
theorem ruB_cl (p : Pg) (l : List (Int × Bool)) (c d : Cfg) (m : Nat) : ∀ o ∈ ruB p l c ++ [cfgB d], o.cl m := by
  intro o ho
  simp only [ruB, List.cons_append, List.nil_append, List.mem_cons, List.not_mem_nil, or_false] at ho
  rcases ho with rfl | rfl | rfl | rfl | rfl | rfl
  · exact pgB_cl p m
  · exact zeroB_cl m
  · exact cfgB_cl _ m
  · exact pgB_cl p m
  · exact lB_cl l m
  · exact cfgB_cl _ m
set_option maxHeartbeats 4000000 in
theorem run_ok (p : Pg) (hp0 : okPg p) (l : List (Int × Bool)) (hl : l.length ≤ 100000) : CallW Try.prog G0 53 [pgV p, .i (.sl (l.map encP))] [] (fun r st' => r = .tup [cfgV (if (chk p).2.2 = 0 then runC p cfg0 l else cfgZ), .i (.int .i64 (chk p).2.2)] ∧ st' = []) := by
  refine call_of_bodyZ 0 (Nat.le_refl _) Try.func53 rfl (fun a w => Try.call53 a w) (zx_ok (own := own0) cx0_good y0_ok hG0 (Nat.zero_le _) _ _ _ _ ?_)
  have c0 := start_ok p hp0
  by_cases h0 : (chk p).2.2 = 0
  · have hp := chk_zero h0
    have es : startC p = cfg0 := by unfold startC; rw [if_pos h0]
    rw [es, h0] at c0
    rw [if_pos h0, h0]
    repeat ((conv => whnf); first | refine Br.t ?_ | refine Br.f ?_ | refine ⟨rfl, ?_⟩)
    conv => whnf
    refine CallW.mono (c0.pure _ rfl rfl) ?_
    rintro r st' ⟨rfl, rfl⟩
    repeat ((conv => whnf); first | refine Br.t ?_ | refine Br.f ?_ | refine ⟨rfl, ?_⟩)
    conv => whnf
    refine CallW.mono (along_in p l _) ?_
    rintro r st' ⟨rfl, rfl⟩
    repeat ((conv => whnf); first | refine Br.t ?_ | refine Br.f ?_ | refine ⟨rfl, ?_⟩)
    conv => whnf
    refine zrange (Kit := fun st' p' => p' = none ∧ st' = ruB p l (runC p cfg0 l) ++ [cfgB (runC p cfg0 l)]) hG0 rfl (fun a w => Try.call91 a w) ?_ ?_
    · rintro l' ⟨q1, q2, q3, q4, q5, q6, q7, q8⟩ rfl rfl rfl
      refine it_of_body Try.func91 rfl rfl (zx_ok (own := own0) (cxIt_good _ _ _ _) (yit_ok (G := G0) _ _ _ _) hG0 (Nat.le_refl _) _ _ _ _ ?_)
      repeat ((conv => whnf); first | refine Br.t ?_ | refine Br.f ?_ | refine ⟨rfl, ?_⟩)
      conv => whnf
      refine CallW.mono (c0.pure _ rfl rfl) ?_
      rintro r st' ⟨rfl, rfl⟩
      repeat ((conv => whnf); first | refine Br.t ?_ | refine Br.f ?_ | refine ⟨rfl, ?_⟩)
      conv => whnf
      refine zx_ok (own := own0) (cxR_good _ _) y0_ok hG0 (Nat.zero_le _) _ _ _ _ ?_
      repeat ((conv => whnf); first | refine Br.t ?_ | refine Br.f ?_ | refine ⟨rfl, ?_⟩)
      conv => whnf
      refine zx_ok (own := own0) (cxR_good _ _) y0_ok hG0 (Nat.zero_le _) _ _ _ _ ?_
      repeat ((conv => whnf); first | refine Br.t ?_ | refine Br.f ?_ | refine ⟨rfl, ?_⟩)
      conv => whnf
      have hbd : ∀ i, i ≤ l.length → OkC p (runC p cfg0 (l.take i)) := fun i hi => runC_ok hp _ (cfg0_ok hp)
      refine zloop_ok (α := Nat) (cxIt_good _ _ _ _) (Nat.le_refl _) (fun i => ⟨alS l (.fn (.yield l') [] []) 3 4 5 i, ruB p l (runC p cfg0 (l.take i)) ++ [cfgB (runC p cfg0 (l.take i))]⟩) (fun i => i ≤ l.length) (fun i => l.length - i) 0 (Nat.zero_le _) (Le.back (fun _ => 0) (by intro id hid; rfl) (Nat.le_succ 5) rfl (by exact ruB_cl p l _ _ _) (by simp [leS, alS, mkS, V.up, V.up.upAll]) rfl) ?_
      intro i hi
      refine zx_ok (own := own0) (cxIt_good _ _ _ _) (yit_ok (G := G0) _ _ _ _) hG0 (Nat.le_refl _) _ _ _ _ ?_
      repeat ((conv => whnf); first | refine Br.t ?_ | refine Br.f ?_ | refine ⟨rfl, ?_⟩)
      conv => whnf
      by_cases hil : i < l.length
      · have hii : (i : Int) < l.length := by omega
        have he : l[i]? = some l[i] := List.getElem?_eq_getElem hil
        have he2 : (l.map encP)[i]? = some (encP l[i]) := by rw [List.getElem?_map, he]; rfl
        have hi0 : (0 : Int) ≤ i := by omega
        have hs := semstep p hp _ (hbd i hi) l[i].1 l[i].2
        repeat ((conv => whnf); first | refine Br.t ?_ | refine Br.f ?_ | refine ⟨rfl, ?_⟩)
        conv => whnf
        refine Br.mk (fun _ => ?_) (fun k => absurd k (by simp; omega))
        repeat ((conv => whnf); first | refine Br.t ?_ | refine Br.f ?_ | refine ⟨rfl, ?_⟩)
        conv => whnf
        have ex : (l.map encP).getD (i : Int).toNat [] = encP l[i] := by
          rw [Int.toNat_natCast, List.getD_eq_getElem?_getD, he2]; rfl
        rw [ex]
        refine ⟨⟨by omega, by simp; omega, rfl⟩, ?_⟩
        repeat ((conv => whnf); first | refine Br.t ?_ | refine Br.f ?_ | refine ⟨rfl, ?_⟩)
        conv => whnf
        refine CallW.mono (hs.pure _ rfl rfl) ?_
        rintro r st' ⟨rfl, rfl⟩
        repeat ((conv => whnf); first | refine Br.t ?_ | refine Br.f ?_ | refine ⟨rfl, ?_⟩)
        conv => whnf
        refine zx_ok (own := own0) (cxR_good _ _) y0_ok hG0 (Nat.zero_le _) _ _ _ _ ?_
        repeat ((conv => whnf); first | refine Br.t ?_ | refine Br.f ?_ | refine ⟨rfl, ?_⟩)
        conv => whnf
        refine zx_ok (own := own0) (cxR_good _ _) y0_ok hG0 (Nat.zero_le _) _ _ _ _ ?_
        repeat ((conv => whnf); first | refine Br.t ?_ | refine Br.f ?_ | refine ⟨rfl, ?_⟩)
        conv => whnf
        refine ⟨i + 1, rfl, by omega, by omega, ?_⟩
        rw [run_snoc p cfg0 l i _ he]
        exact Le.back (fun _ => 0) (by intro id hid; rfl) (Nat.le_succ 5) rfl (by exact ruB_cl p l _ _ _) (by simp [leS, alS, mkS, V.up, V.up.upAll]; exact i64_id (by omega) (by omega)) rfl
      · have hii : ¬ (i : Int) < l.length := by omega
        repeat ((conv => whnf); first | refine Br.t ?_ | refine Br.f ?_ | refine ⟨rfl, ?_⟩)
        conv => whnf
        refine Br.mk (fun k => absurd k (by simp; omega)) (fun _ => ?_)
        repeat ((conv => whnf); first | refine Br.t ?_ | refine Br.f ?_ | refine ⟨rfl, ?_⟩)
        conv => whnf
        have ei : i = l.length := by omega
        subst ei
        rw [List.take_length]
        rfl
    · rintro st' p' ⟨rfl, rfl⟩
      repeat ((conv => whnf); first | refine Br.t ?_ | refine Br.f ?_ | refine ⟨rfl, ?_⟩)
      conv => whnf
      exact ⟨Nat.zero_le _, rfl, (fun _ h => nomatch h), rfl, rfl⟩
  · have es : startC p = cfgZ := by unfold startC; rw [if_neg h0]
    rw [es] at c0
    rw [if_neg h0]
    repeat ((conv => whnf); first | refine Br.t ?_ | refine Br.f ?_ | refine ⟨rfl, ?_⟩)
    conv => whnf
    refine CallW.mono (c0.pure _ rfl rfl) ?_
    rintro r st' ⟨rfl, rfl⟩
    repeat ((conv => whnf); first | refine Br.t ?_ | refine Br.f ?_ | refine ⟨rfl, ?_⟩)
    conv => whnf
    refine Br.mk (fun _ => ?_) (fun k => absurd h0 (by simpa using k))
    repeat ((conv => whnf); first | refine Br.t ?_ | refine Br.f ?_ | refine ⟨rfl, ?_⟩)
    conv => whnf
    exact ⟨Nat.zero_le _, rfl, (fun _ h => nomatch h), rfl, rfl⟩
end Go.Proofs.Ytiikndppckjmhaa.Am

/- Contracts: the first config on the way of a script in which two race. -/
namespace Go.Proofs.Ytiikndppckjmhaa.Am
set_option autoImplicit false
set_option linter.unusedVariables false
set_option linter.unusedSimpArgs false
set_option maxRecDepth 10000
set_option pp.maxSteps 3000
set_option pp.proofs false
/-- do two race behind the first i picks? -/
def metAt (p : Pg) (l : List (Int × Bool)) (i : Nat) : Bool := (firstR (touches p (runC p cfg0 (l.take i)))).isSome
def meets (p : Pg) (l : List (Int × Bool)) : Option Nat := (List.range (l.length + 1)).find? (metAt p l)
end Go.Proofs.Ytiikndppckjmhaa.Am

/- Contracts: scripts' and witnesses' bytes and checks (written by mkysw.py). -/
namespace Go.Proofs.Ytiikndppckjmhaa.Am
set_option autoImplicit false
set_option linter.unusedVariables false
set_option linter.unusedSimpArgs false
set_option maxRecDepth 10000
set_option pp.deepTerms false
set_option pp.deepTerms.threshold 6
set_option pp.proofs false
def ownAll : Tmp → Bool := fun _ => true
theorem ap1 {sz by_ len esl : Nat} {x : I} (hsz : 1 = sz) (b : Nat) (hb : by_ = b) (h1 : len = esl) (h2 : (len + 1) * b ≤ 140737488355328) (h3 : len + 1 ≤ Go.maxLen) :
    (∀ cs ∈ [[x]], cs.length = sz) ∧ len = esl ∧ (len + (lift [[x]]).length) * by_ ≤ 140737488355328 ∧ len + (lift [[x]]).length ≤ Go.maxLen := by
  subst hsz hb
  exact ⟨fun cs hcs => by simp at hcs; subst hcs; rfl, h1, h2, h3⟩
theorem apL {sz by_ len esl : Nat} {es : List (List I)} (hes : ∀ cs ∈ es, cs.length = 1) (hsz : 1 = sz) (b : Nat) (hb : by_ = b) (h1 : len = esl) (h2 : (len + es.length) * b ≤ 140737488355328) (h3 : len + es.length ≤ Go.maxLen) :
    (∀ cs ∈ es, cs.length = sz) ∧ len = esl ∧ (len + (lift es).length) * by_ ≤ 140737488355328 ∧ len + (lift es).length ≤ Go.maxLen := by
  subst hsz hb
  have : (lift es).length = es.length := by simp [lift]
  rw [this]
  exact ⟨hes, h1, h2, h3⟩
theorem u8_small {n : Nat} (h : n < 256) : IntKind.u8.wrap n = n := by
  simp [IntKind.wrap, IntKind.signed, IntKind.bits]; omega
/-- a whole number, seven bits a byte -/
def by8 (b : Nat) : List I := [.int .u8 b]
def okP (x : Int × Bool) : Bool := decide (0 ≤ x.1) && decide (x.1 < 8)
def pk (x : Int × Bool) : Nat := x.1.toNat + if x.2 then 8 else 0
def pks (xs : List (Int × Bool)) : List (List I) := (xs.map pk).map by8
def codeS (xs : List (Int × Bool)) : Int := if 4096 < xs.length then 4 else if xs.all okP then 0 else 1
def stP (xs : List (Int × Bool)) (i : Nat) : List V := mkS 38 [(2, .nils), (3, .i (.int .i64 0)), (4, .ref 0 1 0 i), (11, .i (.sl (xs.map encP))), (12, .i (.int .i64 xs.length)), (13, .i (.int .i64 i))]
theorem codeS_bad {xs : List (Int × Bool)} {x : Int × Bool} (hl : xs.length ≤ 4096) (hx : x ∈ xs) (hb : okP x = false) : codeS xs = 1 := by
  simp only [codeS]
  rw [if_neg (by omega), if_neg]
  intro h
  have := List.all_eq_true.1 h x hx
  rw [hb] at this; cases this
theorem pk_f {a : Int} (h1 : 0 ≤ a) (h2 : a < 8) : IntKind.u8.wrap a = (a.toNat : Int) := by
  simp [IntKind.wrap, IntKind.signed, IntKind.bits]; omega
theorem pk_t {a : Int} (h1 : 0 ≤ a) (h2 : a < 8) : IntKind.u8.wrap (IntKind.u8.wrap a + 8) = ((a.toNat + 8 : Nat) : Int) := by
  simp [IntKind.wrap, IntKind.signed, IntKind.bits]; omega
theorem put25 (xs : List (Int × Bool)) (hx : xs.length ≤ 1000000) : CallW Try.prog G0 90 [.i (.sl (xs.map encP))] []
    (fun r st' => r = .tup [.i (.sl (if codeS xs = 0 then pks xs else [])), .i (.int .i64 (codeS xs))] ∧ st' = []) := by
  refine call_of_bodyF 0 (Nat.le_refl _) Try.func90 rfl (fun a w => Try.call90 a w) (wpx_ok (own := own0) _ _ _ ?_)
  conv => whnf
  refine Br.mk (fun h => ?_) (fun h => ?_)
  · conv => whnf
    simp at h
    have hc : codeS xs = 4 := by simp only [codeS]; rw [if_pos (by omega)]
    refine fin (target := []) rfl (Nat.zero_le _) (by simp) ?_ rfl
    rw [hc]; rfl
  · simp at h
    conv => whnf
    refine loop_ok (α := Nat) (fun i => ⟨stP xs i, [.row 1 1 false (lift (pks (xs.take i)))]⟩) (fun i => i ≤ xs.length ∧ (xs.take i).all okP = true) (fun i => xs.length - i) 0 ⟨Nat.zero_le _, rfl⟩
      ((Le.nil (n := 0) 4 1 rfl).trans (Le.slots (by simp [leS, stP, mkS]))) (fun i hi => wpx_ok (own := own0) _ _ _ ?_)
    obtain ⟨h1, h2⟩ := hi
    conv => whnf
    refine Br.mk (fun h3 => ?_) (fun h3 => ?_)
    · simp at h3
      conv => whnf
      obtain ⟨x, hxi⟩ : ∃ x, x = xs[i] := ⟨_, rfl⟩
      have e : (xs.map encP).getD (i : Int).toNat [] = encP x := by rw [hxi]; exact getD_enc h3
      have htk : xs.take (i + 1) = xs.take i ++ [x] := by rw [hxi]; simp
      rw [e]
      refine ⟨⟨by omega, by simp; omega, rfl⟩, ?_⟩
      repeat ((conv => whnf); first | refine Br.t ?_ | refine Br.f ?_ | refine ⟨rfl, ?_⟩)
      conv => whnf
      refine Br.mk (fun h4 => ?_) (fun h4 => ?_)
      · simp at h4
        repeat ((conv => whnf); first | refine Br.t ?_ | refine Br.f ?_ | refine ⟨rfl, ?_⟩)
        conv => whnf
        have hc : codeS xs = 1 := codeS_bad (by omega) (hxi ▸ List.getElem_mem h3) (by simp only [okP]; simp; omega)
        refine fin (target := []) rfl (Nat.zero_le _) (by simp) ?_ rfl
        rw [hc]; rfl
      · simp at h4
        repeat ((conv => whnf); first | refine Br.t ?_ | refine Br.f ?_ | refine ⟨rfl, ?_⟩)
        conv => whnf
        refine Br.mk (fun h5 => ?_) (fun h5 => ?_)
        · simp at h5
          repeat ((conv => whnf); first | refine Br.t ?_ | refine Br.f ?_ | refine ⟨rfl, ?_⟩)
          conv => whnf
          have hc : codeS xs = 1 := codeS_bad (by omega) (hxi ▸ List.getElem_mem h3) (by simp only [okP]; simp; omega)
          refine fin (target := []) rfl (Nat.zero_le _) (by simp) ?_ rfl
          rw [hc]; rfl
        · simp at h5
          repeat ((conv => whnf); first | refine Br.t ?_ | refine Br.f ?_ | refine ⟨rfl, ?_⟩)
          conv => whnf
          refine Br.mk (fun h6 => ?_) (fun h6 => ?_)
          · repeat ((conv => whnf); first | refine Br.t ?_ | refine Br.f ?_ | refine ⟨rfl, ?_⟩)
            conv => whnf
            refine ⟨ap1 rfl 1 rfl (by simp [lift, pks]; omega) (by omega) (len_mx (by omega)), ?_⟩
            repeat ((conv => whnf); first | refine Br.t ?_ | refine Br.f ?_ | refine ⟨rfl, ?_⟩)
            conv => whnf
            refine ⟨i + 1, ⟨by omega, ?_⟩, by omega, Le.back (fun id => if id = 0 then 1 else 0) (by simp) (Nat.zero_le _) (by rfl) (fun o ho => ?_) ?_ ?_⟩
            · rw [htk, List.all_append, h2]
              simp [okP, h4, h5]
            · simp only [List.mem_singleton] at ho
              subst ho
              exact cl_lift _ _ _ _ _
            · simp [leS, stP, mkS, V.up, lift]
              exact i64_id (by omega) (by omega)
            · have e9 : pks (xs.take i ++ [x]) = pks (xs.take i) ++ [[.int .u8 (IntKind.u8.wrap (IntKind.u8.wrap x.1 + 8))]] := by
                simp only [pks, List.map_append, List.map_cons, List.map_nil, by8, pk, h6, if_true, pk_t h4 h5]
              simp only [upSt, Ob.up, map_up_lift]
              rw [htk, e9, lift_app]
              rfl
          · repeat ((conv => whnf); first | refine Br.t ?_ | refine Br.f ?_ | refine ⟨rfl, ?_⟩)
            conv => whnf
            refine ⟨ap1 rfl 1 rfl (by simp [lift, pks]; omega) (by omega) (len_mx (by omega)), ?_⟩
            repeat ((conv => whnf); first | refine Br.t ?_ | refine Br.f ?_ | refine ⟨rfl, ?_⟩)
            conv => whnf
            refine ⟨i + 1, ⟨by omega, ?_⟩, by omega, Le.back (fun id => if id = 0 then 1 else 0) (by simp) (Nat.zero_le _) (by rfl) (fun o ho => ?_) ?_ ?_⟩
            · rw [htk, List.all_append, h2]
              simp [okP, h4, h5]
            · simp only [List.mem_singleton] at ho
              subst ho
              exact cl_lift _ _ _ _ _
            · simp [leS, stP, mkS, V.up, lift]
              exact i64_id (by omega) (by omega)
            · have e9 : pks (xs.take i ++ [x]) = pks (xs.take i) ++ [[.int .u8 (IntKind.u8.wrap x.1)]] := by
                simp only [pks, List.map_append, List.map_cons, List.map_nil, by8, pk, h6, pk_f h4 h5]
                rfl
              simp only [upSt, Ob.up, map_up_lift]
              rw [htk, e9, lift_app]
              rfl
    · simp at h3
      have e : xs.take i = xs := List.take_of_length_le h3
      have hc : codeS xs = 0 := by rw [e] at h2; simp only [codeS]; rw [if_neg (by omega), if_pos h2]
      conv => whnf
      refine ⟨Nat.le_refl _, rfl, pks (xs.take i), rfl, ?_⟩
      conv => whnf
      refine fin (target := []) rfl (Nat.zero_le _) (by simp) ?_ rfl
      rw [hc, e]
      simp [pks]
      rw [List.take_of_length_le (by simp; omega)]
theorem within29 (n l : Int) : CallW Try.prog G0 109 [.i (.int .i64 n), .i (.int .i64 l)] [] (fun r st' => r = .i (.bool (decide (0 ≤ n) && decide (n < l))) ∧ st' = []) := by
  refine call_of_bodyF 0 (Nat.le_refl _) Try.func109 rfl (fun a w => Try.call109 a w) (wpx_ok (own := own0) _ _ _ ?_)
  conv => whnf
  refine Br.mk (fun h => ?_) (fun h => ?_)
  · simp at h
    repeat ((conv => whnf); first | refine Br.t ?_ | refine Br.f ?_ | refine ⟨rfl, ?_⟩)
    conv => whnf
    refine fin (target := []) rfl (Nat.zero_le _) (by simp) ?_ rfl
    simp [h]
  · simp at h
    repeat ((conv => whnf); first | refine Br.t ?_ | refine Br.f ?_ | refine ⟨rfl, ?_⟩)
    conv => whnf
    refine fin (target := []) rfl (Nat.zero_le _) (by simp) ?_ rfl
    rw [decide_eq_false (by omega : ¬ 0 ≤ n)]; rfl
def okW (a b c : Int) : Bool := (decide (0 ≤ a) && decide (a < 8)) && (decide (0 ≤ b) && decide (b < 8)) && (decide (0 ≤ c) && decide (c < 16)) && !decide (a = b)
def codeW (xs : List (Int × Bool)) (a b c : Int) : Int := if codeS xs = 0 then (if okW a b c then 0 else 1) else codeS xs
def encW (xs : List (Int × Bool)) (a b c : Int) : List I := [.sl (xs.map encP), .int .i64 a, .int .i64 b, .int .i64 c]
theorem check13 (xs : List (Int × Bool)) (a b c : Int) (hx : xs.length ≤ 1000000) : CallW Try.prog G0 93 [.agg ((encW xs a b c).map .i)] [] (fun r st' => r = .i (.int .i64 (codeW xs a b c)) ∧ st' = []) := by
  refine call_of_bodyF 0 (Nat.le_refl _) Try.func93 rfl (fun a w => Try.call93 a w) (wpx_ok (own := own0) _ _ _ ?_)
  repeat ((conv => whnf); first | refine Br.t ?_ | refine Br.f ?_ | refine ⟨rfl, ?_⟩)
  conv => whnf
  refine ((put25 xs hx).pure _ rfl rfl).mono ?_
  rintro r st' ⟨rfl, rfl⟩
  repeat ((conv => whnf); first | refine Br.t ?_ | refine Br.f ?_ | refine ⟨rfl, ?_⟩)
  conv => whnf
  refine Br.mk (fun h => ?_) (fun h => ?_)
  · simp at h
    repeat ((conv => whnf); first | refine Br.t ?_ | refine Br.f ?_ | refine ⟨rfl, ?_⟩)
    conv => whnf
    refine fin (target := []) rfl (Nat.zero_le _) (by simp) ?_ rfl
    simp [codeW, h]
  · simp at h
    repeat ((conv => whnf); first | refine Br.t ?_ | refine Br.f ?_ | refine ⟨rfl, ?_⟩)
    conv => whnf
    refine ((within29 a 8).pure _ rfl rfl).mono ?_
    rintro r st' ⟨rfl, rfl⟩
    repeat ((conv => whnf); first | refine Br.t ?_ | refine Br.f ?_ | refine ⟨rfl, ?_⟩)
    conv => whnf
    refine Br.mk (fun h1 => ?_) (fun h1 => ?_)
    · repeat ((conv => whnf); first | refine Br.t ?_ | refine Br.f ?_ | refine ⟨rfl, ?_⟩)
      conv => whnf
      refine fin (target := []) rfl (Nat.zero_le _) (by simp) ?_ rfl
      have ho : okW a b c = false := by simp only [okW]; simp at *; omega
      simp [codeW, h, ho]
    · repeat ((conv => whnf); first | refine Br.t ?_ | refine Br.f ?_ | refine ⟨rfl, ?_⟩)
      conv => whnf
      refine ((within29 b 8).pure _ rfl rfl).mono ?_
      rintro r st' ⟨rfl, rfl⟩
      repeat ((conv => whnf); first | refine Br.t ?_ | refine Br.f ?_ | refine ⟨rfl, ?_⟩)
      conv => whnf
      refine Br.mk (fun h2 => ?_) (fun h2 => ?_)
      · repeat ((conv => whnf); first | refine Br.t ?_ | refine Br.f ?_ | refine ⟨rfl, ?_⟩)
        conv => whnf
        refine fin (target := []) rfl (Nat.zero_le _) (by simp) ?_ rfl
        have ho : okW a b c = false := by simp only [okW]; simp at *; omega
        simp [codeW, h, ho]
      · repeat ((conv => whnf); first | refine Br.t ?_ | refine Br.f ?_ | refine ⟨rfl, ?_⟩)
        conv => whnf
        refine ((within29 c 16).pure _ rfl rfl).mono ?_
        rintro r st' ⟨rfl, rfl⟩
        repeat ((conv => whnf); first | refine Br.t ?_ | refine Br.f ?_ | refine ⟨rfl, ?_⟩)
        conv => whnf
        refine Br.mk (fun h3 => ?_) (fun h3 => ?_)
        · repeat ((conv => whnf); first | refine Br.t ?_ | refine Br.f ?_ | refine ⟨rfl, ?_⟩)
          conv => whnf
          refine fin (target := []) rfl (Nat.zero_le _) (by simp) ?_ rfl
          have ho : okW a b c = false := by simp only [okW]; simp at *; omega
          simp [codeW, h, ho]
        · repeat ((conv => whnf); first | refine Br.t ?_ | refine Br.f ?_ | refine ⟨rfl, ?_⟩)
          conv => whnf
          refine Br.mk (fun h4 => ?_) (fun h4 => ?_)
          · repeat ((conv => whnf); first | refine Br.t ?_ | refine Br.f ?_ | refine ⟨rfl, ?_⟩)
            conv => whnf
            refine fin (target := []) rfl (Nat.zero_le _) (by simp) ?_ rfl
            have ho : okW a b c = false := by simp only [okW]; simp at *; omega
            simp [codeW, h, ho]
          · repeat ((conv => whnf); first | refine Br.t ?_ | refine Br.f ?_ | refine ⟨rfl, ?_⟩)
            conv => whnf
            refine fin (target := []) rfl (Nat.zero_le _) (by simp) ?_ rfl
            have ho : okW a b c = true := by simp only [okW]; simp at h1 h2 h3 h4 ⊢; omega
            simp [codeW, h, ho]
theorem apG {sz by_ len esl : Nat} {es : List (List I)} (hes : ∀ cs ∈ es, cs.length = sz) (b : Nat) (hb : by_ = b) (h1 : len = esl) (h2 : (len + es.length) * b ≤ 140737488355328) (h3 : len + es.length ≤ Go.maxLen) :
    (∀ cs ∈ es, cs.length = sz) ∧ len = esl ∧ (len + (lift es).length) * by_ ≤ 140737488355328 ∧ len + (lift es).length ≤ Go.maxLen := by
  subst hb
  have : (lift es).length = es.length := by simp [lift]
  rw [this]
  exact ⟨hes, h1, h2, h3⟩
end Go.Proofs.Ytiikndppckjmhaa.Am

/- Contracts: the writer, and a witness's bytes (written by mkysv.py). -/
namespace Go.Proofs.Ytiikndppckjmhaa.Am
set_option autoImplicit false
set_option linter.unusedVariables false
set_option linter.unusedSimpArgs false
set_option maxRecDepth 10000
set_option pp.deepTerms false
set_option pp.deepTerms.threshold 6
set_option pp.proofs false
theorem or128 (n : Nat) : IntKind.u8.wrap ((BitVec.ofInt IntKind.u8.bits (IntKind.u8.wrap n) ||| BitVec.ofInt IntKind.u8.bits 128).toNat : Nat) = (n % 128 + 128 : Nat) := by
  have h0 : ∀ m : Fin 256, m.val ||| 128 = m.val % 128 + 128 := by decide
  have h1 : (BitVec.ofInt 8 (IntKind.u8.wrap n)).toNat = n % 256 := by
    simp [IntKind.wrap, IntKind.signed, IntKind.bits, BitVec.toNat_ofInt]
    omega
  have h2 : (BitVec.ofInt IntKind.u8.bits (IntKind.u8.wrap n) ||| BitVec.ofInt IntKind.u8.bits 128).toNat = n % 256 ||| 128 := by
    rw [BitVec.toNat_or]
    show (BitVec.ofInt 8 (IntKind.u8.wrap n)).toNat ||| 128 = _
    rw [h1]
  rw [h2, h0 ⟨n % 256, by omega⟩, u8_small (by simp; omega)]
  simp
/-- a whole number, seven bits a byte -/
def putN (n : Nat) : List Nat := if h : n < 128 then [n] else (n % 128 + 128) :: putN (n / 128)
termination_by n
decreasing_by omega
theorem putN_len : ∀ (k n : Nat), n < 128 ^ (k + 1) → (putN n).length ≤ k + 1
  | 0, n, h => by rw [putN, dif_pos (by omega)]; simp
  | k + 1, n, h => by
    rw [putN]
    split
    · simp
    · have := putN_len k (n / 128) (by rw [Nat.pow_succ] at h; exact Nat.div_lt_of_lt_mul (by omega))
      simp; omega
def mid (n : Nat) (ys : List (List I)) : List V := mkS 19 [(0, .i (.int .u32 n)), (2, .nils), (3, .ref 0 1 0 ys.length)]
theorem put46 (n : Nat) (hn : n < 4294967296) : CallW Try.prog G0 114 [.i (.int .u32 n)] [] (fun r st' => r = .i (.sl ((putN n).map by8)) ∧ st' = []) := by
  refine call_of_bodyF 0 (Nat.le_refl _) Try.func114 rfl (fun a w => Try.call114 a w) (wpx_ok (own := own0) _ _ _ ?_)
  conv => whnf
  refine loop_ok (α := Nat × List Nat) (fun x => ⟨mid x.1 (x.2.map by8), [.row 1 1 false (lift (x.2.map by8))]⟩)
    (fun x => x.1 < 4294967296 ∧ x.2.length ≤ 5 ∧ x.1 * 128 ^ x.2.length ≤ n ∧ x.2 ++ putN x.1 = putN n) (fun x => x.1) (n, []) ⟨hn, by simp, by simp, by simp⟩
    ((Le.nil (n := 0) 3 1 rfl).trans (Le.slots (by simp [leS, mid, mkS]))) (fun x hx => wpx_ok (own := own0) _ _ _ ?_)
  obtain ⟨h1, h2, h3, h4⟩ := hx
  conv => whnf
  refine Br.mk (fun h => ?_) (fun h => ?_)
  · conv => whnf
    refine ⟨by rfl, ?_⟩
    conv => whnf
    refine ⟨ap1 rfl 1 rfl (by simp [lift]) (by simp; omega) (len_mx (by simp; omega)), ?_⟩
    conv => whnf
    refine ⟨by omega, ?_⟩
    conv => whnf
    refine ⟨(x.1 / 128, x.2 ++ [x.1 % 128 + 128]), ?_, ?_, Le.down (fun id => if id = 0 then 1 else 0) ?_ ?_ ?_⟩
    · simp at h
      refine ⟨?_, ?_, ?_, ?_⟩
      · simp only; omega
      · simp only [List.length_append, List.length_cons, List.length_nil]
        have : x.2.length ≠ 5 := fun e => by
          rw [e] at h3
          have : x.1 * 34359738368 ≤ n := h3
          omega
        omega
      · simp only [List.length_append, List.length_cons, List.length_nil, Nat.pow_succ]
        refine Nat.le_trans ?_ h3
        rw [Nat.mul_comm (128 ^ x.2.length), ← Nat.mul_assoc]
        exact Nat.mul_le_mul_right _ (Nat.div_mul_le_self _ _)
      · rw [← h4, List.append_assoc, putN.eq_def x.1, dif_neg (by omega)]
        rfl
    · simp at h
      simp only; omega
    · simp
    · simp [leS, mid, mkS, V.up]
      refine ⟨?_, rfl⟩
      rw [Int.fdiv_eq_ediv_of_nonneg _ (by decide)]
      rfl
    · simp only [upSt, Ob.up, map_up_lift]
      refine congrArg (fun z => [Ob.row 2 1 false z]) ?_
      rw [List.map_append, lift_app]
      refine congrArg (fun z => lift (List.map by8 x.2) ++ lift z) ?_
      simp only [List.map_cons, List.map_nil, by8, or128]
  · conv => whnf
    refine ⟨by rfl, ?_⟩
    conv => whnf
    refine ⟨ap1 rfl 1 rfl (by simp [lift]) (by simp; omega) (len_mx (by simp; omega)), ?_⟩
    conv => whnf
    refine ⟨by omega, rfl, x.2.map by8 ++ [by8 x.1], ?_, ?_⟩
    · rw [lift_app]
      refine congrArg (fun z => lift (List.map by8 x.2) ++ lift z) ?_
      simp only [by8, u8_small (show x.1 < 256 by simp at h; omega)]
    · refine ⟨Nat.zero_le _, rfl, by simp, ?_, rfl⟩
      simp at h
      rw [← h4, putN, dif_pos (by omega)]
      simp [lift]
      exact List.take_of_length_le (by simp)

/-- a writer that has these bytes -/
def wr (k : Nat) (zs : List (List I)) : List Ob := [.row 0 1 false [[.ref 1 (k + 1) 0 zs.length]], .row (k + 1) 1 false (lift zs)]
def wr0 : List Ob := [.row 0 1 false [[.nils]]]
def one (zs : List (List I)) : Prop := ∀ cs ∈ zs, cs.length = 1
theorem wr_cl (k : Nat) (zs : List (List I)) : ∀ o ∈ wr k zs, o.cl 2 := by
  intro o ho
  simp only [wr, List.mem_cons, List.not_mem_nil, or_false] at ho
  rcases ho with rfl | rfl
  · intro cs hcs
    simp only [List.mem_cons, List.not_mem_nil, or_false] at hcs
    subst hcs
    rfl
  · exact cl_lift _ _ _ _ _
theorem apN {sz by_ : Nat} {es : List (List I)} (hes : one es) (hsz : 1 = sz) (b : Nat) (hb : by_ = b) (h2 : es.length * b ≤ 140737488355328) (h3 : es.length ≤ Go.maxLen) : (∀ cs ∈ es, cs.length = sz) ∧ (lift es).length * by_ ≤ 140737488355328 ∧ (lift es).length ≤ Go.maxLen := by
  subst hsz hb
  have : (lift es).length = es.length := by simp [lift]
  rw [this]
  exact ⟨hes, h2, h3⟩
theorem known_map_i (st : List Ob) : ∀ xs : List I, knownAll st (xs.map .i) = true
  | [] => rfl
  | x :: xs => by simp [knownAll, V.known, known_map_i st xs]
theorem apR {st : List Ob} {w : List (List V)} {es : List (List I)} {by_ len esl : Nat} (hw : w = lift es) (h1 : len = esl) (b : Nat) (hb : by_ = b) (h2 : (len + es.length) * b ≤ 140737488355328) (h3 : len + es.length ≤ Go.maxLen) :
    (∀ cs ∈ w, knownAll st cs = true) ∧ len = esl ∧ (len + w.length) * by_ ≤ 140737488355328 ∧ len + w.length ≤ Go.maxLen := by
  subst hw hb
  have : (lift es).length = es.length := by simp [lift]
  rw [this]
  refine ⟨fun cs hcs => ?_, h1, h2, h3⟩
  simp only [lift, List.mem_map] at hcs
  obtain ⟨x, _, rfl⟩ := hcs
  exact known_map_i _ _
theorem raw0 (xs : List (List I)) (h1 : one xs) (h2 : xs.length ≤ 140737488355328) : CallW Try.prog G0 105 [.ptr 0 0 0 0, .i (.sl xs)] wr0 (fun r st' => r = .tup [] ∧ st' = wr 0 xs) := by
  refine call_of_bodyF 2 (by decide) Try.func105 rfl (fun a w => Try.call105 a w) (wpx_ok (own := own0) _ _ _ ?_)
  conv => whnf
  refine ⟨by rfl, ?_⟩
  conv => whnf
  refine ⟨apN h1 rfl 1 rfl (by omega) (len_mx (by omega)), ?_⟩
  conv => whnf
  refine ⟨by rfl, ?_⟩
  conv => whnf
  refine fin (target := wr 0 xs) ?_ ?_ (wr_cl _ _) rfl rfl
  · simp [wr, putCells, lift]
  · simp
theorem raw1 (ys xs : List (List I)) (h1 : one xs) (h2 : ys.length + xs.length ≤ 140737488355328) : CallW Try.prog G0 105 [.ptr 0 0 0 0, .i (.sl xs)] (wr 0 ys) (fun r st' => r = .tup [] ∧ st' = wr 1 (ys ++ xs)) := by
  refine call_of_bodyF 2 (Nat.le_refl _) Try.func105 rfl (fun a w => Try.call105 a w) (wpx_ok (own := own0) _ _ _ ?_)
  conv => whnf
  refine ⟨by rfl, ?_⟩
  conv => whnf
  refine ⟨apL h1 rfl 1 rfl (by simp [lift]) (by omega) (len_mx (by omega)), ?_⟩
  conv => whnf
  refine ⟨by rfl, ?_⟩
  conv => whnf
  refine fin (target := wr 1 (ys ++ xs)) ?_ ?_ (wr_cl _ _) rfl rfl
  · simp [wr, putCells, lift]
  · simp
/-- whatever its version -/
theorem wr_up (k : Nat) (zs : List (List I)) (j : Nat) : upSt (fun id => if id = 1 then k else 0) 0 (wr j zs) = wr (j + k) zs := by
  simp [upSt, Ob.up, wr, V.up, V.up.upAll]
  omega
theorem raw (k : Nat) (ys xs : List (List I)) (h1 : one xs) (h2 : ys.length + xs.length ≤ 140737488355328) : CallW Try.prog G0 105 [.ptr 0 0 0 0, .i (.sl xs)] (wr k ys) (fun r st' => r = .tup [] ∧ st' = wr (1 + k) (ys ++ xs)) := by
  have := (raw1 ys xs h1 h2).vers (fun id => if id = 1 then k else 0)
  rw [wr_up, Nat.zero_add] at this
  refine this.mono ?_
  rintro r st' ⟨r0, st0, ⟨rfl, rfl⟩, rfl, rfl⟩
  exact ⟨rfl, wr_up _ _ _⟩
theorem num1 (ys : List (List I)) (n : Nat) (hn : n < 4294967296) (h2 : ys.length ≤ 1000000) : CallW Try.prog G0 107 [.ptr 0 0 0 0, .i (.int .i64 n)] (wr 0 ys) (fun r st' => r = .tup [] ∧ st' = wr 1 (ys ++ (putN n).map by8)) := by
  refine call_of_bodyF 2 (Nat.le_refl _) Try.func107 rfl (fun a w => Try.call107 a w) (wpx_ok (own := own0) _ _ _ ?_)
  conv => whnf
  refine draw_ok (own := own0) [8, 11] [(0, 11)] [(.i (.sl ((putN n).map by8)), wr 0 ys)] rfl (by kernel_rfl) (Nat.le_refl _) ?_
  conv => whnf
  refine ⟨by rfl, ?_⟩
  conv => whnf
  have c : CallW Try.prog G0 114 [.i (.int .u32 (IntKind.u32.wrap n))] (wr 0 ys) (fun r st' => r = .i (.sl ((putN n).map by8)) ∧ st' = wr 0 ys) := by
    rw [show IntKind.u32.wrap n = n by simp [IntKind.wrap, IntKind.signed, IntKind.bits]; omega]
    exact (put46 n hn).pure _ rfl rfl
  refine ⟨c, ?_⟩
  have hl := putN_len 4 n (by omega)
  conv => whnf
  refine ⟨apL (by simp [by8]) rfl 1 rfl (by simp [lift]) (by simp only [List.length_map]; omega) (len_mx (by simp only [List.length_map]; omega)), ?_⟩
  conv => whnf
  refine ⟨by rfl, ?_⟩
  conv => whnf
  refine ⟨?_, ?_, ?_⟩
  · repeat ((conv => whnf); first | exact trivial | refine ⟨rfl, ?_⟩)
  · conv => whnf
    refine ⟨?_, trivial⟩
    conv => whnf
    exact ⟨rfl, rfl⟩
  · conv => whnf
    refine fin (target := wr 1 (ys ++ (putN n).map by8)) ?_ ?_ (wr_cl _ _) rfl rfl
    · simp [wr, putCells, lift]
    · simp
theorem num (k : Nat) (ys : List (List I)) (n : Nat) (hn : n < 4294967296) (h2 : ys.length ≤ 1000000) : CallW Try.prog G0 107 [.ptr 0 0 0 0, .i (.int .i64 n)] (wr k ys) (fun r st' => r = .tup [] ∧ st' = wr (1 + k) (ys ++ (putN n).map by8)) := by
  have := (num1 ys n hn h2).vers (fun id => if id = 1 then k else 0)
  rw [wr_up, Nat.zero_add] at this
  refine this.mono ?_
  rintro r st' ⟨r0, st0, ⟨rfl, rfl⟩, rfl, rfl⟩
  exact ⟨rfl, wr_up _ _ _⟩
theorem block1 (ys xs : List (List I)) (h1 : one xs) (h2 : xs.length ≤ 1000000) (h3 : ys.length ≤ 1000000) : CallW Try.prog G0 106 [.ptr 0 0 0 0, .i (.sl xs)] (wr 0 ys) (fun r st' => r = .tup [] ∧ st' = wr 2 (ys ++ (putN xs.length).map by8 ++ xs)) := by
  refine call_of_bodyF 2 (Nat.le_refl _) Try.func106 rfl (fun a w => Try.call106 a w) (wpx_ok (own := own0) _ _ _ ?_)
  have hl := putN_len 4 xs.length (by omega)
  conv => whnf
  refine (num 0 ys xs.length (by omega) h3).mono ?_
  rintro r st' ⟨rfl, rfl⟩
  conv => whnf
  refine (raw 1 (ys ++ (putN xs.length).map by8) xs h1 (by simp only [List.length_append, List.length_map]; omega)).mono ?_
  rintro r st' ⟨rfl, rfl⟩
  conv => whnf
  refine fin (target := wr 2 (ys ++ (putN xs.length).map by8 ++ xs)) ?_ ?_ (wr_cl _ _) rfl rfl
  · rfl
  · exact Nat.le_refl _
theorem block (k : Nat) (ys xs : List (List I)) (h1 : one xs) (h2 : xs.length ≤ 1000000) (h3 : ys.length ≤ 1000000) : CallW Try.prog G0 106 [.ptr 0 0 0 0, .i (.sl xs)] (wr k ys) (fun r st' => r = .tup [] ∧ st' = wr (2 + k) (ys ++ (putN xs.length).map by8 ++ xs)) := by
  have := (block1 ys xs h1 h2 h3).vers (fun id => if id = 1 then k else 0)
  rw [wr_up, Nat.zero_add] at this
  refine this.mono ?_
  rintro r st' ⟨r0, st0, ⟨rfl, rfl⟩, rfl, rfl⟩
  exact ⟨rfl, wr_up _ _ _⟩
theorem bytes0 (zs : List (List I)) (h1 : one zs) (h2 : zs.length ≤ 140737488355328) : CallW Try.prog G0 108 [.ptr 0 0 0 0] (wr 0 zs) (fun r st' => r = .i (.sl zs) ∧ st' = wr 0 zs) := by
  refine call_of_bodyF 2 (Nat.le_refl _) Try.func108 rfl (fun a w => Try.call108 a w) (wpx_ok (own := ownAll) _ _ _ ?_)
  conv => whnf
  refine ⟨by rfl, ?_⟩
  conv => whnf
  refine ⟨by rfl, ?_⟩
  conv => whnf
  have hl : ((lift zs).drop 0).take zs.length = lift zs := by
    simp only [lift, List.drop_zero]
    exact List.take_of_length_le (by simp)
  refine ⟨apR hl rfl 1 rfl (by simp; omega) (len_mx (by simp; omega)), ?_⟩
  conv => whnf
  refine ⟨Nat.le_refl _, rfl, zs, ?_, ?_⟩
  · exact hl
  · refine fin (target := wr 0 zs) ?_ ?_ (wr_cl _ _) ?_ rfl
    · rfl
    · simp
    · rw [hl]; simp [lift]
theorem bytes (k : Nat) (zs : List (List I)) (h1 : one zs) (h2 : zs.length ≤ 140737488355328) : CallW Try.prog G0 108 [.ptr 0 0 0 0] (wr k zs) (fun r st' => r = .i (.sl zs) ∧ st' = wr k zs) := by
  have := (bytes0 zs h1 h2).vers (fun id => if id = 1 then k else 0)
  rw [wr_up, Nat.zero_add] at this
  refine this.mono ?_
  rintro r st' ⟨r0, st0, ⟨rfl, rfl⟩, rfl, rfl⟩
  exact ⟨rfl, by rw [wr_up, Nat.zero_add]⟩
/-- the writer's rows in a store of four: numbers 1 and 3 -/
def wrU (o d : Ob) (k : Nat) (zs : List (List I)) : List Ob := [o, .row 0 1 false [[.ref 3 (k + 1) 0 zs.length]], d, .row (k + 1) 1 false (lift zs)]
theorem up1 {f : FuncId} {args : List V} {v : V} {k k' : Nat} {zs zs' : List (List I)} (o d : Ob) (h : CallW Try.prog G0 f args (wr k zs) (fun r st' => r = v ∧ st' = wr k' zs')) (ha : V.cl.clAll 2 args = true) :
    CallW Try.prog G0 f (V.ren.renAll (fm [1, 3] 4) args) (wrU o d k zs) (fun r st' => r = v.ren (fm [1, 3] 4) ∧ st' = wrU o d k' zs') := by
  refine (CallW.rise (bargs := V.ren.renAll (fm [1, 3] 4) args) (big := wrU o d k zs) [1, 3] [] h rfl (by decide) (by simp [wrU]) ?_ (wr_cl _ _) (by simp) (renAll_len _ _) (args_ren ha) (.inl rfl)).mono ?_
  · simp only [wr, wrU, List.map_cons, List.map_nil, ren_lift]
    rfl
  · rintro r st' ⟨r0, s0, ⟨rfl, rfl⟩, rfl, rfl⟩
    refine ⟨rfl, ?_⟩
    simp only [wr, wrU, List.map_cons, List.map_nil, ren_lift]
    rfl
theorem up0 {f : FuncId} {args : List V} {v : V} {k' : Nat} {zs' : List (List I)} (o d : Ob) (h : CallW Try.prog G0 f args wr0 (fun r st' => r = v ∧ st' = wr k' zs')) (ha : V.cl.clAll 1 args = true) :
    CallW Try.prog G0 f (V.ren.renAll (fm [1] 3) args) [o, .row 0 1 false [[.nils]], d] (fun r st' => r = v.ren (fm [1] 3) ∧ st' = wrU o d k' zs') := by
  refine (CallW.rise (bargs := V.ren.renAll (fm [1] 3) args) (big := [o, .row 0 1 false [[.nils]], d]) [1] [] h rfl (by decide) (by simp) rfl (by simp [wr0, Ob.cl, V.cl.clAll, V.cl]) (by simp) (renAll_len _ _) (args_ren ha) (.inl rfl)).mono ?_
  rintro r st' ⟨r0, s0, ⟨rfl, rfl⟩, rfl, rfl⟩
  refine ⟨rfl, ?_⟩
  simp only [wr, wrU, List.map_cons, List.map_nil, ren_lift]
  rfl
def magic : List (List I) := [by8 97, by8 108, by8 119, by8 49]
def puts (n : Nat) : List (List I) := (putN n).map by8
def headW (xs : List (Int × Bool)) : List (List I) := magic ++ puts xs.length ++ pks xs
def bytesW (xs : List (Int × Bool)) (a b c : Int) : List (List I) := headW xs ++ puts a.toNat ++ puts b.toNat ++ puts c.toNat
theorem one_pks (xs : List (Int × Bool)) : one (pks xs) := by
  intro cs hcs
  simp only [pks, List.mem_map] at hcs
  obtain ⟨n, _, rfl⟩ := hcs
  rfl
theorem one_puts (n : Nat) : one (puts n) := by
  intro cs hcs
  simp only [puts, List.mem_map] at hcs
  obtain ⟨n, _, rfl⟩ := hcs
  rfl
theorem one_app {a b : List (List I)} (h1 : one a) (h2 : one b) : one (a ++ b) := fun cs h => (List.mem_append.1 h).elim (h1 cs) (h2 cs)
theorem one_magic : one magic := by intro cs h; simp [magic] at h; rcases h with rfl | rfl | rfl | rfl <;> rfl
theorem len_puts {n : Nat} (h : n < 4294967296) : (puts n).length ≤ 5 := by simpa [puts] using putN_len 4 n (by omega)
theorem len_head (xs : List (Int × Bool)) (hx : xs.length ≤ 1000000) : (headW xs).length ≤ xs.length + 9 := by
  have := len_puts (n := xs.length) (by omega)
  simp [headW, magic, pks] at this ⊢; omega
theorem okW_nat {a b c : Int} (h : okW a b c = true) : 0 ≤ a ∧ a < 8 ∧ 0 ≤ b ∧ b < 8 ∧ 0 ≤ c ∧ c < 16 ∧ a ≠ b := by
  simp only [okW] at h; simp at h; omega
def zsW (xs : List (Int × Bool)) (a b c : Nat) : Nat → List (List I)
  | 0 => headW xs
  | 1 => headW xs ++ puts a
  | 2 => headW xs ++ puts a ++ puts b
  | _ => headW xs ++ puts a ++ puts b ++ puts c
theorem write11 (xs : List (Int × Bool)) (a b c : Int) (hx : xs.length ≤ 5000) : CallW Try.prog G0 92 [.agg ((encW xs a b c).map .i)] [] (fun r st' => r = .tup [.i (.sl (if codeW xs a b c = 0 then bytesW xs a b c else [])), .i (.int .i64 (codeW xs a b c))] ∧ st' = []) := by
  refine call_of_bodyF 0 (Nat.le_refl _) Try.func92 rfl (fun a w => Try.call92 a w) (wpx_ok (own := fun t => t == 15) _ _ _ ?_)
  repeat ((conv => whnf); first | refine Br.t ?_ | refine Br.f ?_ | refine ⟨rfl, ?_⟩)
  conv => whnf
  refine ((check13 xs a b c (by omega)).pure _ rfl rfl).mono ?_
  rintro r st' ⟨rfl, rfl⟩
  repeat ((conv => whnf); first | refine Br.t ?_ | refine Br.f ?_ | refine ⟨rfl, ?_⟩)
  conv => whnf
  refine Br.mk (fun h => ?_) (fun h => ?_)
  · simp at h
    repeat ((conv => whnf); first | refine Br.t ?_ | refine Br.f ?_ | refine ⟨rfl, ?_⟩)
    conv => whnf
    refine fin (target := []) rfl (Nat.zero_le _) (by simp) ?_ rfl
    simp [h]
  · simp at h
    have hs : codeS xs = 0 := by simp only [codeW] at h; split at h <;> simp_all
    have ho : okW a b c = true := by simp only [codeW, hs, if_true] at h; split at h <;> simp_all
    obtain ⟨a1, a2, b1, b2, c1, c2, hab⟩ := okW_nat ho
    rw [h]
    obtain ⟨a, rfl⟩ := Int.eq_ofNat_of_zero_le a1
    obtain ⟨b, rfl⟩ := Int.eq_ofNat_of_zero_le b1
    obtain ⟨c, rfl⟩ := Int.eq_ofNat_of_zero_le c1
    repeat ((conv => whnf); first | refine Br.t ?_ | refine Br.f ?_ | refine ⟨rfl, ?_⟩)
    conv => whnf
    refine ⟨⟨rfl, by decide⟩, ?_⟩
    repeat ((conv => whnf); first | refine Br.t ?_ | refine Br.f ?_ | refine ⟨rfl, ?_⟩)
    conv => whnf
    refine CallW.mono (up0 _ _ (raw0 magic one_magic (by decide)) rfl) ?_
    rintro r st' ⟨rfl, rfl⟩
    repeat ((conv => whnf); first | refine Br.t ?_ | refine Br.f ?_ | refine ⟨rfl, ?_⟩)
    conv => whnf
    refine ((put25 xs (by omega)).pure _ rfl rfl).mono ?_
    rintro r st' ⟨rfl, rfl⟩
    rw [hs, if_pos rfl]
    repeat ((conv => whnf); first | refine Br.t ?_ | refine Br.f ?_ | refine ⟨rfl, ?_⟩)
    conv => whnf
    have hb : CallW Try.prog G0 106 [.ptr 0 0 0 0, .i (.sl (pks xs))] (wr 0 magic) (fun r st' => r = .tup [] ∧ st' = wr 2 (headW xs)) := by
      have := block 0 magic (pks xs) (one_pks xs) (by simp [pks]; omega) (by decide)
      rw [show (pks xs).length = xs.length by simp [pks]] at this
      exact this
    refine CallW.mono (up1 _ _ hb rfl) ?_
    rintro r st' ⟨rfl, rfl⟩
    repeat ((conv => whnf); first | refine Br.t ?_ | refine Br.f ?_ | refine ⟨rfl, ?_⟩)
    conv => whnf
    have hh := len_head xs (by omega)
    have pa := len_puts (n := a) (by omega)
    have pb := len_puts (n := b) (by omega)
    refine loop_ok (α := Nat) (fun j => ⟨mkS 42 [(5, .ptr 1 0 0 0), (32, .i (.sl [[.int .i64 a], [.int .i64 b], [.int .i64 c]])), (33, .i (.int .i64 3)), (34, .i (.int .i64 j))], wrU (.row 0 4 false [(encW xs a b c).map .i]) .dead 2 (zsW xs a b c j)⟩)
      (fun j => j ≤ 3) (fun j => 3 - j) 0 (by decide) (Le.slots (by simp [leS, mkS])) (fun j hj => wpx_ok (own := own0) _ _ _ ?_)
    have hj' : j = 0 ∨ j = 1 ∨ j = 2 ∨ j = 3 := by omega
    rcases hj' with rfl | rfl | rfl | rfl
    · repeat ((conv => whnf); first | refine Br.t ?_ | refine Br.f ?_ | refine ⟨rfl, ?_⟩)
      conv => whnf
      refine ⟨⟨by decide, by simp, rfl⟩, ?_⟩
      repeat ((conv => whnf); first | refine Br.t ?_ | refine Br.f ?_ | refine ⟨rfl, ?_⟩)
      conv => whnf
      refine CallW.mono (up1 _ _ (num 2 (headW xs) a (by omega) (by first | omega | (simp only [List.length_append]; omega))) rfl) ?_
      rintro r st' ⟨rfl, rfl⟩
      repeat ((conv => whnf); first | refine Br.t ?_ | refine Br.f ?_ | refine ⟨rfl, ?_⟩)
      conv => whnf
      refine ⟨1, by decide, by decide, Le.down (fun id => if id = 3 then 1 else 0) (by intro id h; simp at h) ?_ ?_⟩
      · simp [leS, mkS, V.up]
        rfl
      · simp only [upSt, Ob.up, map_up_lift, wrU]
        rfl
    · repeat ((conv => whnf); first | refine Br.t ?_ | refine Br.f ?_ | refine ⟨rfl, ?_⟩)
      conv => whnf
      refine ⟨⟨by decide, by simp, rfl⟩, ?_⟩
      repeat ((conv => whnf); first | refine Br.t ?_ | refine Br.f ?_ | refine ⟨rfl, ?_⟩)
      conv => whnf
      refine CallW.mono (up1 _ _ (num 2 (headW xs ++ puts a) b (by omega) (by first | omega | (simp only [List.length_append]; omega))) rfl) ?_
      rintro r st' ⟨rfl, rfl⟩
      repeat ((conv => whnf); first | refine Br.t ?_ | refine Br.f ?_ | refine ⟨rfl, ?_⟩)
      conv => whnf
      refine ⟨2, by decide, by decide, Le.down (fun id => if id = 3 then 1 else 0) (by intro id h; simp at h) ?_ ?_⟩
      · simp [leS, mkS, V.up]
        rfl
      · simp only [upSt, Ob.up, map_up_lift, wrU]
        rfl
    · repeat ((conv => whnf); first | refine Br.t ?_ | refine Br.f ?_ | refine ⟨rfl, ?_⟩)
      conv => whnf
      refine ⟨⟨by decide, by simp, rfl⟩, ?_⟩
      repeat ((conv => whnf); first | refine Br.t ?_ | refine Br.f ?_ | refine ⟨rfl, ?_⟩)
      conv => whnf
      refine CallW.mono (up1 _ _ (num 2 (headW xs ++ puts a ++ puts b) c (by omega) (by first | omega | (simp only [List.length_append]; omega))) rfl) ?_
      rintro r st' ⟨rfl, rfl⟩
      repeat ((conv => whnf); first | refine Br.t ?_ | refine Br.f ?_ | refine ⟨rfl, ?_⟩)
      conv => whnf
      refine ⟨3, by decide, by decide, Le.down (fun id => if id = 3 then 1 else 0) (by intro id h; simp at h) ?_ ?_⟩
      · simp [leS, mkS, V.up]
        rfl
      · simp only [upSt, Ob.up, map_up_lift, wrU]
        rfl
    · repeat ((conv => whnf); first | refine Br.t ?_ | refine Br.f ?_ | refine ⟨rfl, ?_⟩)
      conv => whnf
      have pc := len_puts (n := c) (by omega)
      refine CallW.mono (up1 _ _ (bytes 2 (headW xs ++ puts a ++ puts b ++ puts c) (one_app (one_app (one_app (one_app (one_app one_magic (one_puts _)) (one_pks _)) (one_puts _)) (one_puts _)) (one_puts _)) (by simp only [List.length_append]; omega)) rfl) ?_
      rintro r st' ⟨rfl, rfl⟩
      repeat ((conv => whnf); first | refine Br.t ?_ | refine Br.f ?_ | refine ⟨rfl, ?_⟩)
      conv => whnf
      refine fin (target := []) rfl (Nat.zero_le _) (by simp) ?_ rfl
      rfl
theorem puts_small {n : Nat} (h : n < 128) : puts n = [by8 n] := by rw [puts, putN, dif_pos h]; rfl
theorem wake_bytes : bytesW [] 0 1 2 = [by8 97, by8 108, by8 119, by8 49, by8 0, by8 0, by8 1, by8 2] := by
  simp [bytesW, headW, magic, pks, puts_small]
def isB (zs : List (List I)) : Prop := ∀ cs ∈ zs, ∃ n : Nat, cs = by8 n
theorem isB_ok {zs : List (List I)} (h : isB zs) : (∀ cs ∈ zs, cs.length = 1) ∧ ∀ cs ∈ lift zs, isByte cs := by
  refine ⟨fun cs hcs => ?_, fun cs hcs => ?_⟩
  · obtain ⟨n, rfl⟩ := h cs hcs; rfl
  · simp only [lift, List.mem_map] at hcs
    obtain ⟨x, hx, rfl⟩ := hcs
    obtain ⟨n, rfl⟩ := h x hx
    trivial
theorem isB_map (ns : List Nat) : isB (ns.map by8) := fun cs h => by
  simp only [List.mem_map] at h
  obtain ⟨n, _, rfl⟩ := h
  exact ⟨n, rfl⟩
theorem awake10 : CallW Try.prog G0 60 [] [] (fun r st' => r = .i (.bool true) ∧ st' = []) := by
  refine call_of_bodyF 0 (Nat.le_refl _) Try.func60 rfl (fun a w => Try.call60 a w) (wpx_ok (own := own0) _ _ _ ?_)
  repeat ((conv => whnf); first | refine Br.t ?_ | refine Br.f ?_ | refine ⟨rfl, ?_⟩)
  conv => whnf
  have hw : CallW Try.prog G0 92 [.agg [.nils, .i (.int .i64 0), .i (.int .i64 1), .i (.int .i64 2)]] [] (fun r st' => r = .tup [.i (.sl [by8 97, by8 108, by8 119, by8 49, by8 0, by8 0, by8 1, by8 2]), .i (.int .i64 0)] ∧ st' = []) := by
    have h := write11 [] 0 1 2 (by decide)
    rw [show codeW [] 0 1 2 = 0 from by decide, if_pos rfl, wake_bytes] at h
    exact h.nd rfl
  refine (hw.pure _ rfl rfl).mono ?_
  rintro r st' ⟨rfl, rfl⟩
  repeat ((conv => whnf); first | refine Br.t ?_ | refine Br.f ?_ | refine ⟨rfl, ?_⟩)
  conv => whnf
  refine ⟨isB_ok (isB_map [97, 108, 119, 49, 0, 0, 1, 2]), ?_⟩
  repeat ((conv => whnf); first | refine Br.t ?_ | refine Br.f ?_ | refine ⟨rfl, ?_⟩)
  conv => whnf
  refine fin (target := []) rfl (Nat.zero_le _) (by simp) rfl rfl
end Go.Proofs.Ytiikndppckjmhaa.Am

/- Contract: a config, as the document has it. -/
namespace Go.Proofs.Ytiikndppckjmhaa.Am
set_option autoImplicit false
set_option linter.unusedVariables false
set_option linter.unusedSimpArgs false
set_option maxRecDepth 10000
set_option pp.maxSteps 3000
set_option pp.proofs false
end Go.Proofs.Ytiikndppckjmhaa.Am

/- Contract: the document's sameness of a config with itself. -/
namespace Go.Proofs.Ytiikndppckjmhaa.Am
set_option autoImplicit false
set_option linter.unusedVariables false
set_option linter.unusedSimpArgs false
set_option maxRecDepth 10000
set_option pp.maxSteps 3000
set_option pp.proofs false
end Go.Proofs.Ytiikndppckjmhaa.Am

/- Contract: a step of a thread changes nothing of another one. -/
namespace Go.Proofs.Ytiikndppckjmhaa.Am
set_option autoImplicit false
set_option linter.unusedVariables false
set_option linter.unusedSimpArgs false
set_option maxRecDepth 10000
set_option pp.maxSteps 3000
set_option pp.proofs false
end Go.Proofs.Ytiikndppckjmhaa.Am

/- Contracts: picks of who may do no step change nothing of what a script comes to. -/
namespace Go.Proofs.Ytiikndppckjmhaa.Am
set_option autoImplicit false
set_option linter.unusedVariables false
set_option linter.unusedSimpArgs false
set_option maxRecDepth 10000
set_option pp.maxSteps 3000
set_option pp.proofs false
end Go.Proofs.Ytiikndppckjmhaa.Am

/- Contract: the document's copy of a config: as data, or with rows of its own for the stacks, the slots, and one thread's stack. -/
namespace Go.Proofs.Ytiikndppckjmhaa.Am
set_option autoImplicit false
set_option linter.unusedVariables false
set_option linter.unusedSimpArgs false
set_option maxRecDepth 10000
set_option pp.maxSteps 3000
set_option pp.proofs false
end Go.Proofs.Ytiikndppckjmhaa.Am

/- Contracts: the document's config at first, who lives, where a thread is, who may do a step. -/
namespace Go.Proofs.Ytiikndppckjmhaa.Am
set_option autoImplicit false
set_option linter.unusedVariables false
set_option linter.unusedSimpArgs false
set_option maxRecDepth 10000
set_option pp.maxSteps 3000
set_option pp.proofs false
end Go.Proofs.Ytiikndppckjmhaa.Am

/- Contract: what a pick makes of the document's config. -/
namespace Go.Proofs.Ytiikndppckjmhaa.Am
set_option autoImplicit false
set_option linter.unusedVariables false
set_option linter.unusedSimpArgs false
set_option maxRecDepth 10000
set_option pp.maxSteps 3000
set_option pp.proofs false
end Go.Proofs.Ytiikndppckjmhaa.Am

/- Contract: what a pick makes of the document's config. -/
namespace Go.Proofs.Ytiikndppckjmhaa.Am
set_option autoImplicit false
set_option linter.unusedVariables false
set_option linter.unusedSimpArgs false
set_option maxRecDepth 10000
set_option pp.maxSteps 3000
set_option pp.proofs false
end Go.Proofs.Ytiikndppckjmhaa.Am

/- Contracts: what a thread has, whoever it is; the mask of a list. -/
namespace Go.Proofs.Ytiikndppckjmhaa.Am
set_option autoImplicit false
set_option linter.unusedVariables false
set_option linter.unusedSimpArgs false
set_option maxRecDepth 10000
set_option pp.maxSteps 3000
set_option pp.proofs false
end Go.Proofs.Ytiikndppckjmhaa.Am

/- The document's table of calls: what comes to what, by rounds of three. -/
namespace Go.Proofs.Ytiikndppckjmhaa.Am
set_option autoImplicit false
set_option linter.unusedVariables false
set_option linter.unusedSimpArgs false
def cell (m : List (List Nat)) (a b : Nat) : Nat := (m.getD a []).getD b 0
def put1 (m : List (List Nat)) (a b : Nat) : List (List Nat) := m.set a ((m.getD a []).set b 1)
def on (m : List (List Nat)) (a b : Nat) : Prop := cell m a b = 1
def Sq (n : Nat) (m : List (List Nat)) : Prop := m.length = n ∧ ∀ a, a < n → (m.getD a []).length = n
theorem getD_set_eq {α : Type} (l : List α) (i j : Nat) (x d : α) (h : i < l.length) : (l.set i x).getD j d = if i = j then x else l.getD j d := by
  rw [List.getD_eq_getElem?_getD, List.getD_eq_getElem?_getD, List.getElem?_set]
  by_cases e : i = j
  · subst e; simp [h]
  · simp [e]
theorem Sq.put {n : Nat} {m : List (List Nat)} (h : Sq n m) {a b : Nat} (ha : a < n) : Sq n (put1 m a b) := by
  refine ⟨by unfold put1; rw [List.length_set, h.1], fun c hc => ?_⟩
  unfold put1
  rw [getD_set_eq _ _ _ _ _ (by rw [h.1]; exact ha)]
  split
  · rw [List.length_set]; exact h.2 a ha
  · exact h.2 c hc
/-- steps along E whose inner places are below K -/
inductive Via (E : Nat → Nat → Prop) (K : Nat) : Nat → Nat → Prop
  | one {a b : Nat} : E a b → Via E K a b
  | step {a c b : Nat} : E a c → c < K → Via E K c b → Via E K a b
theorem Via.split {E : Nat → Nat → Prop} {K a b : Nat} (h : Via E (K + 1) a b) : Via E K a b ∨ (Via E K a K ∧ Via E K K b) := by
  induction h with
  | one h => exact .inl (.one h)
  | @step a c b h hc _ ih =>
    by_cases e : c = K
    · subst e
      rcases ih with ih | ih
      · exact .inr ⟨.one h, ih⟩
      · exact .inr ⟨.one h, ih.2⟩
    · rcases ih with ih | ih
      · exact .inl (.step h (by omega) ih)
      · exact .inr ⟨.step h (by omega) ih.1, ih.2⟩
/-- what a round of k keeps: its start m0 -/
structure Inv (fs : List (List Nd)) (m0 m : List (List Nat)) : Prop where
  sq : Sq fs.length m
  sound : ∀ a b, a < fs.length → b < fs.length → on m a b → Conn (E fs) a b
  mono : ∀ a b, on m0 a b → on m a b
end Go.Proofs.Ytiikndppckjmhaa.Am

/- Contracts: the document's table of calls. -/
namespace Go.Proofs.Ytiikndppckjmhaa.Am
set_option autoImplicit false
set_option linter.unusedVariables false
set_option linter.unusedSimpArgs false
set_option maxRecDepth 10000
set_option pp.maxSteps 3000
set_option pp.proofs false
/-! The table told as data. -/
end Go.Proofs.Ytiikndppckjmhaa.Am

/- Contracts: the table of calls, its rows. -/
namespace Go.Proofs.Ytiikndppckjmhaa.Am
set_option autoImplicit false
set_option linter.unusedVariables false
set_option linter.unusedSimpArgs false
set_option maxRecDepth 10000
set_option pp.maxSteps 3000
set_option pp.proofs false
end Go.Proofs.Ytiikndppckjmhaa.Am

/- Contracts: the table of calls, in full. -/
namespace Go.Proofs.Ytiikndppckjmhaa.Am
set_option autoImplicit false
set_option linter.unusedVariables false
set_option linter.unusedSimpArgs false
set_option maxRecDepth 10000
set_option pp.maxSteps 3000
set_option pp.proofs false
end Go.Proofs.Ytiikndppckjmhaa.Am

/- Contracts: the document's word on what is wrong with a program first is the program's. -/
namespace Go.Proofs.Ytiikndppckjmhaa.Am
set_option autoImplicit false
set_option linter.unusedVariables false
set_option linter.unusedSimpArgs false
set_option maxRecDepth 10000
set_option pp.maxSteps 3000
set_option pp.proofs false
end Go.Proofs.Ytiikndppckjmhaa.Am

/- Contracts: the document's check of a program, in full. -/
namespace Go.Proofs.Ytiikndppckjmhaa.Am
set_option autoImplicit false
set_option linter.unusedVariables false
set_option linter.unusedSimpArgs false
set_option maxRecDepth 10000
set_option pp.maxSteps 3000
set_option pp.proofs false

end Go.Proofs.Ytiikndppckjmhaa.Am

/- Contract: whatever a program and a script are, all configs on the way are the document's. -/
namespace Go.Proofs.Ytiikndppckjmhaa.Am
set_option autoImplicit false
set_option linter.unusedVariables false
set_option linter.unusedSimpArgs false
set_option maxRecDepth 10000
set_option pp.maxSteps 3000
set_option pp.proofs false
end Go.Proofs.Ytiikndppckjmhaa.Am

/- Plain laws: who stands at an access, and who races. -/
namespace Go.Proofs.Ytiikndppckjmhaa.Am
set_option autoImplicit false
set_option linter.unusedVariables false
set_option linter.unusedSimpArgs false
def tcOf (p : Pg) (c : Cfg) (u : Nat) : Tc := (u, (atN p c u).2.1, decide ((atN p c u).1 = 2))
theorem touchL_succ (p : Pg) (c : Cfg) (t : Nat) : touchL p c (t + 1) = touchL p c t ++ if isAcc p c t = true then [tcOf p c t] else [] := rfl
theorem mem_touchL {p : Pg} {c : Cfg} {x : Tc} : ∀ {t : Nat}, x ∈ touchL p c t ↔ ∃ u, u < t ∧ isAcc p c u = true ∧ x = tcOf p c u
  | 0 => by simp [touchL]
  | t + 1 => by
    rw [touchL_succ, List.mem_append, mem_touchL]
    constructor
    · rintro (⟨u, h1, h2⟩ | h)
      · exact ⟨u, by omega, h2⟩
      · split at h
        · rename_i ha
          simp at h
          exact ⟨t, by omega, ha, h⟩
        · simp at h
    · rintro ⟨u, h1, h2, h3⟩
      by_cases hu : u = t
      · subst hu
        right
        rw [if_pos h2]
        simp [h3]
      · exact .inl ⟨u, by omega, h2, h3⟩
theorem touchL_pw (p : Pg) (c : Cfg) : ∀ t, (touchL p c t).Pairwise (fun x y => x.1 < y.1)
  | 0 => .nil
  | t + 1 => by
    rw [touchL_succ, List.pairwise_append]
    refine ⟨touchL_pw p c t, ?_, fun x hx y hy => ?_⟩
    · split
      · exact List.pairwise_singleton _ _
      · exact .nil
    · obtain ⟨u, h1, _, rfl⟩ := mem_touchL.1 hx
      split at hy
      · simp at hy; subst hy; exact h1
      · simp at hy
/-- the last one of a thread -/
def lastW (a : Int) (L : List Tc) : Option Tc := L.foldl (fun o x => if (x.1 : Int) = a then some x else o) none
theorem lastW_snoc (a : Int) (L : List Tc) (x : Tc) : lastW a (L ++ [x]) = if (x.1 : Int) = a then some x else lastW a L := by
  simp [lastW, List.foldl_append]
theorem lastW_touch (p : Pg) (c : Cfg) (a : Int) : ∀ t : Nat, lastW a (touchL p c t) = if 0 ≤ a ∧ a < t ∧ isAcc p c a.toNat = true then some (tcOf p c a.toNat) else none
  | 0 => by rw [if_neg (by omega)]; rfl
  | t + 1 => by
    rw [touchL_succ]
    by_cases ha : isAcc p c t = true
    · rw [if_pos ha, lastW_snoc]
      by_cases h : (t : Int) = a
      · subst h
        rw [if_pos (show ((tcOf p c t).1 : Int) = (t : Int) from rfl), if_pos ⟨by omega, by omega, by simpa using ha⟩]
        simp
      · rw [if_neg (show ¬ ((tcOf p c t).1 : Int) = a from h), lastW_touch p c a t]
        by_cases hq : 0 ≤ a ∧ a < t ∧ isAcc p c a.toNat = true
        · rw [if_pos hq, if_pos ⟨hq.1, by omega, hq.2.2⟩]
        · rw [if_neg hq, if_neg fun k => hq ⟨k.1, by omega, k.2.2⟩]
    · rw [if_neg ha, List.append_nil, lastW_touch p c a t]
      by_cases hq : 0 ≤ a ∧ a < t ∧ isAcc p c a.toNat = true
      · rw [if_pos hq, if_pos ⟨hq.1, by omega, hq.2.2⟩]
      · rw [if_neg hq, if_neg fun k => hq ⟨k.1, by
          have : a ≠ t := fun e => by subst e; exact ha (by simpa using k.2.2)
          omega, k.2.2⟩]
def pairB (L : List Tc) (a b g : Int) : Bool := match lastW a L, lastW b L with
  | some x, some y => agB x y && decide (x.2.1 = g)
  | _, _ => false
theorem firstR_some : ∀ {L : List Tc} {x y : Tc}, L.Pairwise (fun x y => x.1 < y.1) → firstR L = some (x, y) → x ∈ L ∧ y ∈ L ∧ agB x y = true ∧ x.1 < y.1
  | [], _, _, _, h => by cases h
  | z :: r, x, y, hp, h => by
    obtain ⟨h1, h2⟩ := List.pairwise_cons.1 hp
    unfold firstR at h
    split at h
    · rename_i w hf
      cases h
      have hm := List.mem_of_find?_eq_some hf
      exact ⟨by simp, by simp [hm], by simpa using List.find?_some hf, h1 _ hm⟩
    · obtain ⟨a, b, c, d⟩ := firstR_some h2 h
      exact ⟨by simp [a], by simp [b], c, d⟩
theorem lastW_mem {p : Pg} {c : Cfg} {x : Tc} (h : x ∈ touches p c) : lastW (x.1 : Int) (touches p c) = some x := by
  obtain ⟨u, h1, h2, rfl⟩ := mem_touchL.1 h
  unfold touches
  rw [lastW_touch, if_pos ⟨by simp [tcOf], by simp [tcOf]; exact h1, by simpa [tcOf] using h2⟩]
  rfl
theorem pairB_of {p : Pg} {c : Cfg} {x y : Tc} (hx : x ∈ touches p c) (hy : y ∈ touches p c) (h : agB x y = true) : pairB (touches p c) (x.1 : Int) (y.1 : Int) x.2.1 = true := by
  unfold pairB
  rw [lastW_mem hx, lastW_mem hy]
  simp [h]
theorem first_in_range {p : Pg} {c : Cfg} {x : Tc} (h : x ∈ touches p c) : x.1 < c.ths.length ∧ isAcc p c x.1 = true ∧ x = tcOf p c x.1 := by
  obtain ⟨u, h1, h2, rfl⟩ := mem_touchL.1 h
  exact ⟨h1, h2, rfl⟩
end Go.Proofs.Ytiikndppckjmhaa.Am

/- Contract: do two threads race for a global? -/
namespace Go.Proofs.Ytiikndppckjmhaa.Am
set_option autoImplicit false
set_option linter.unusedVariables false
set_option linter.unusedSimpArgs false
set_option maxRecDepth 10000
set_option pp.maxSteps 3000
set_option pp.proofs false
def ptV (o : Option Tc) : V := match o with | some x => .iptr (encT x) 0 | none => .i .nilp
def prS (L : List Tc) (a b g : Int) (i : Nat) (o1 o2 : V) : List V := mkS 67 [(2, .i (.int .i64 a)), (3, .i (.int .i64 b)), (4, .i (.int .i64 g)), (5, .ptr 0 0 0 0), (6, .ptr 1 0 0 0), (11, o1), (12, o2), (13, .i (.sl (L.map encT))), (19, .i (.int .i64 L.length)), (20, .i (.int .i64 i))]
set_option maxHeartbeats 2000000 in
theorem pair_loop (p : Pg) (c : Cfg) (L : List Tc) (hlen : L.length ≤ 8) (a b g : Int) : W Try.prog G0 0 (.loop (lp Try.f50 0)) (fun e s' => e = .exit 0 ∧ s' = ⟨prS L a b g L.length (ptV (lastW a L)) (ptV (lastW b L)), [pgB p, cfgB c]⟩) ⟨prS L a b g 0 (.i .nilp) (.i .nilp), [pgB p, cfgB c]⟩ := by
  refine W.weak (loop_ok (α := Nat) (fun i => ⟨prS L a b g i (ptV (lastW a (L.take i))) (ptV (lastW b (L.take i))), [pgB p, cfgB c]⟩)
    (fun i => i ≤ L.length) (fun i => L.length - i) 0 (Nat.zero_le _) (Le.refl _ _) (fun i hi => wpx_ok (own := own0) _ _ _ ?_))
  have hfull : i = L.length → lastW a (L.take i) = lastW a L ∧ lastW b (L.take i) = lastW b L := fun e => by rw [e, List.take_length]; exact ⟨rfl, rfl⟩
  have hnext : ∀ g : i < L.length, lastW a (L.take (i + 1)) = (if (L[i].1 : Int) = a then some L[i] else lastW a (L.take i)) ∧ lastW b (L.take (i + 1)) = (if (L[i].1 : Int) = b then some L[i] else lastW b (L.take i)) := fun g => by
    have e : L.take (i + 1) = L.take i ++ [L[i]] := by rw [List.take_add_one, List.getElem?_eq_getElem g]; rfl
    rw [e, lastW_snoc, lastW_snoc]
    exact ⟨rfl, rfl⟩
  obtain ⟨o1, ho1⟩ : ∃ o, o = lastW a (L.take i) := ⟨_, rfl⟩
  obtain ⟨o2, ho2⟩ : ∃ o, o = lastW b (L.take i) := ⟨_, rfl⟩
  rw [← ho1, ← ho2] at hnext hfull ⊢
  obtain ⟨v1, hv1⟩ : ∃ v, v = ptV o1 := ⟨_, rfl⟩
  obtain ⟨v2, hv2⟩ : ∃ v, v = ptV o2 := ⟨_, rfl⟩
  rw [← hv1, ← hv2]
  repeat ((conv => whnf); first | refine Br.t ?_ | refine Br.f ?_ | refine ⟨rfl, ?_⟩)
  conv => whnf
  refine Br.mk (fun gg => ?_) (fun gg => ?_)
  · have gg : i < L.length := by simpa using gg
    obtain ⟨e1, e2⟩ := hnext gg
    obtain ⟨x, hx⟩ : ∃ x, x = L[i] := ⟨_, rfl⟩
    have ex : (L.map encT).getD (i : Int).toNat [] = encT x := by rw [hx]; exact getD_enc gg
    rw [← hx] at e1 e2
    repeat ((conv => whnf); first | refine Br.t ?_ | refine Br.f ?_ | refine ⟨rfl, ?_⟩)
    conv => whnf
    rw [ex]
    refine ⟨⟨by omega, by simp; omega, rfl⟩, ?_⟩
    repeat ((conv => whnf); first | refine Br.t ?_ | refine Br.f ?_ | refine ⟨rfl, ?_⟩)
    conv => whnf
    refine Br.mk (fun h1 => ?_) (fun h1 => ?_)
    · have h1 : (x.1 : Int) = a := by simpa using h1
      rw [if_pos h1] at e1
      repeat ((conv => whnf); first | refine Br.t ?_ | refine Br.f ?_ | refine ⟨rfl, ?_⟩)
      conv => whnf
      rw [ex]
      refine ⟨⟨by omega, by simp; omega, rfl⟩, ?_⟩
      repeat ((conv => whnf); first | refine Br.t ?_ | refine Br.f ?_ | refine ⟨rfl, ?_⟩)
      conv => whnf
      rw [ex]
      refine ⟨⟨by omega, by simp; omega, rfl⟩, ?_⟩
      repeat ((conv => whnf); first | refine Br.t ?_ | refine Br.f ?_ | refine ⟨rfl, ?_⟩)
      conv => whnf
      refine Br.mk (fun h2 => ?_) (fun h2 => ?_)
      · have h2 : (x.1 : Int) = b := by simpa using h2
        rw [if_pos h2] at e2
        repeat ((conv => whnf); first | refine Br.t ?_ | refine Br.f ?_ | refine ⟨rfl, ?_⟩)
        conv => whnf
        rw [ex]
        refine ⟨⟨by omega, by simp; omega, rfl⟩, ?_⟩
        repeat ((conv => whnf); first | refine Br.t ?_ | refine Br.f ?_ | refine ⟨rfl, ?_⟩)
        conv => whnf
        refine ⟨i + 1, by omega, by omega, Le.slots ?_⟩
        rw [e1, e2]
        try rw [← hv1]
        simp [leS, mkS, prS, ptV]
        exact i64_id (by omega) (by omega)
      · have h2 : ¬ (x.1 : Int) = b := by simpa using h2
        rw [if_neg h2] at e2
        repeat ((conv => whnf); first | refine Br.t ?_ | refine Br.f ?_ | refine ⟨rfl, ?_⟩)
        conv => whnf
        refine ⟨i + 1, by omega, by omega, Le.slots ?_⟩
        rw [e1, e2, ← hv2]
        try rw [← hv1]
        simp [leS, mkS, prS, ptV]
        exact i64_id (by omega) (by omega)
    · have h1 : ¬ (x.1 : Int) = a := by simpa using h1
      rw [if_neg h1] at e1
      repeat ((conv => whnf); first | refine Br.t ?_ | refine Br.f ?_ | refine ⟨rfl, ?_⟩)
      conv => whnf
      rw [ex]
      refine ⟨⟨by omega, by simp; omega, rfl⟩, ?_⟩
      repeat ((conv => whnf); first | refine Br.t ?_ | refine Br.f ?_ | refine ⟨rfl, ?_⟩)
      conv => whnf
      refine Br.mk (fun h2 => ?_) (fun h2 => ?_)
      · have h2 : (x.1 : Int) = b := by simpa using h2
        rw [if_pos h2] at e2
        repeat ((conv => whnf); first | refine Br.t ?_ | refine Br.f ?_ | refine ⟨rfl, ?_⟩)
        conv => whnf
        rw [ex]
        refine ⟨⟨by omega, by simp; omega, rfl⟩, ?_⟩
        repeat ((conv => whnf); first | refine Br.t ?_ | refine Br.f ?_ | refine ⟨rfl, ?_⟩)
        conv => whnf
        refine ⟨i + 1, by omega, by omega, Le.slots ?_⟩
        rw [e1, e2]
        try rw [← hv1]
        simp [leS, mkS, prS, ptV]
        exact i64_id (by omega) (by omega)
      · have h2 : ¬ (x.1 : Int) = b := by simpa using h2
        rw [if_neg h2] at e2
        repeat ((conv => whnf); first | refine Br.t ?_ | refine Br.f ?_ | refine ⟨rfl, ?_⟩)
        conv => whnf
        refine ⟨i + 1, by omega, by omega, Le.slots ?_⟩
        rw [e1, e2, ← hv2]
        try rw [← hv1]
        simp [leS, mkS, prS, ptV]
        exact i64_id (by omega) (by omega)
  · have gg : i = L.length := by simp at gg; omega
    obtain ⟨f1, f2⟩ := hfull gg
    repeat ((conv => whnf); first | refine Br.t ?_ | refine Br.f ?_ | refine ⟨rfl, ?_⟩)
    conv => whnf
    refine ⟨⟨prS L a b g L.length (ptV (lastW a L)) (ptV (lastW b L)), [pgB p, cfgB c]⟩, Le.slots ?_, rfl, rfl⟩
    rw [← f1, ← f2, ← hv1, ← hv2]
    simp [leS, mkS, prS, gg]
set_option maxHeartbeats 2000000 in
theorem pair_ok (p : Pg) (hp : PgOk p) (c : Cfg) (hc : OkC p c) (a b g : Int) : CallW Try.prog G0 50 [pgV p, cfgV c, .i (.int .i64 a), .i (.int .i64 b), .i (.int .i64 g)] [] (fun r st' => r = .i (.bool (pairB (touches p c) a b g)) ∧ st' = []) := by
  refine call_of_bodyF 0 (Nat.le_refl _) Try.func50 rfl (fun a w => Try.call50 a w) (wpx_ok (own := own0) _ _ _ ?_)
  have ct := touches_ok p hp c hc
  have hlen : (touches p c).length ≤ 8 := Nat.le_trans (touchL_len p c _) hc.n.2
  obtain ⟨L, hL⟩ : ∃ L, L = touches p c := ⟨_, rfl⟩
  rw [← hL] at ct hlen ⊢
  have lp := pair_loop p c L hlen a b g
  unfold pairB
  obtain ⟨o1, ho1⟩ : ∃ o, o = lastW a L := ⟨_, rfl⟩
  obtain ⟨o2, ho2⟩ : ∃ o, o = lastW b L := ⟨_, rfl⟩
  rw [← ho1, ← ho2] at lp ⊢
  repeat ((conv => whnf); first | refine Br.t ?_ | refine Br.f ?_ | refine ⟨rfl, ?_⟩)
  conv => whnf
  refine CallW.mono (ct.pure _ rfl rfl) ?_
  rintro r st' ⟨rfl, rfl⟩
  repeat ((conv => whnf); first | refine Br.t ?_ | refine Br.f ?_ | refine ⟨rfl, ?_⟩)
  conv => whnf
  refine W.le (Le.slots (sl' := prS L a b g 0 (.i .nilp) (.i .nilp)) (by simp [leS, mkS, prS])) (W.mono lp ?_)
  rintro e s' ⟨rfl, rfl⟩
  cases o1 with
  | none =>
    repeat ((conv => whnf); first | refine Br.t ?_ | refine Br.f ?_ | refine ⟨rfl, ?_⟩)
    conv => whnf
    refine draw_ok (own := own0) [] [] [] rfl (by kernel_rfl) (Nat.zero_le _) ?_
    repeat ((conv => whnf); first | refine Br.t ?_ | refine Br.f ?_ | refine ⟨rfl, ?_⟩)
    conv => whnf
    refine ⟨by repeat ((conv => whnf); first | exact trivial | refine ⟨rfl, ?_⟩), trivial, ?_⟩
    conv => whnf
    repeat ((conv => whnf); first | refine Br.t ?_ | refine Br.f ?_ | refine ⟨rfl, ?_⟩)
    conv => whnf
    refine fin (target := []) rfl (Nat.zero_le _) (by simp) rfl rfl
  | some x =>
    cases o2 with
    | none =>
      repeat ((conv => whnf); first | refine Br.t ?_ | refine Br.f ?_ | refine ⟨rfl, ?_⟩)
      conv => whnf
      refine draw_ok (own := own0) [] [] [] rfl (by kernel_rfl) (Nat.zero_le _) ?_
      repeat ((conv => whnf); first | refine Br.t ?_ | refine Br.f ?_ | refine ⟨rfl, ?_⟩)
      conv => whnf
      refine ⟨by repeat ((conv => whnf); first | exact trivial | refine ⟨rfl, ?_⟩), trivial, ?_⟩
      conv => whnf
      repeat ((conv => whnf); first | refine Br.t ?_ | refine Br.f ?_ | refine ⟨rfl, ?_⟩)
      conv => whnf
      refine fin (target := []) rfl (Nat.zero_le _) (by simp) rfl rfl
    | some y =>
      have cg := against_ok x y
      obtain ⟨q, hq⟩ : ∃ q, q = agB x y := ⟨_, rfl⟩
      rw [← hq] at cg
      repeat ((conv => whnf); first | refine Br.t ?_ | refine Br.f ?_ | refine ⟨rfl, ?_⟩)
      conv => whnf
      refine draw_ok (own := own0) [] [] [(.i (.bool q), [pgB p, cfgB c])] rfl (by kernel_rfl) (Nat.zero_le _) ?_
      repeat ((conv => whnf); first | refine Br.t ?_ | refine Br.f ?_ | refine ⟨rfl, ?_⟩)
      conv => whnf
      refine ⟨cg.pure _ rfl rfl, ?_⟩
      cases q with
      | false =>
        repeat ((conv => whnf); first | refine Br.t ?_ | refine Br.f ?_ | refine ⟨rfl, ?_⟩)
        conv => whnf
        refine ⟨by repeat ((conv => whnf); first | exact trivial | refine ⟨rfl, ?_⟩), trivial, ?_⟩
        conv => whnf
        repeat ((conv => whnf); first | refine Br.t ?_ | refine Br.f ?_ | refine ⟨rfl, ?_⟩)
        conv => whnf
        refine fin (target := []) rfl (Nat.zero_le _) (by simp) (by simp [← hq]) rfl
      | true =>
        repeat ((conv => whnf); first | refine Br.t ?_ | refine Br.f ?_ | refine ⟨rfl, ?_⟩)
        conv => whnf
        refine ⟨by repeat ((conv => whnf); first | exact trivial | refine ⟨rfl, ?_⟩), trivial, ?_⟩
        conv => whnf
        repeat ((conv => whnf); first | refine Br.t ?_ | refine Br.f ?_ | refine ⟨rfl, ?_⟩)
        conv => whnf
        refine fin (target := []) rfl (Nat.zero_le _) (by simp) (by simp [← hq]; rfl) rfl
end Go.Proofs.Ytiikndppckjmhaa.Am

/- Contracts: who touches what, and who races, as the document has it. -/
namespace Go.Proofs.Ytiikndppckjmhaa.Am
set_option autoImplicit false
set_option linter.unusedVariables false
set_option linter.unusedSimpArgs false
set_option maxRecDepth 10000
set_option pp.maxSteps 3000
set_option pp.proofs false
end Go.Proofs.Ytiikndppckjmhaa.Am

/- Contracts: who races first, as the document has it; its config behind picks. -/
namespace Go.Proofs.Ytiikndppckjmhaa.Am
set_option autoImplicit false
set_option linter.unusedVariables false
set_option linter.unusedSimpArgs false
set_option maxRecDepth 10000
set_option pp.maxSteps 3000
set_option pp.proofs false
def h4 (o : Option (Tc × Tc)) : List V := match o with
  | some (x, y) => [.i (.int .i64 (x.1 : Nat)), .i (.int .i64 (y.1 : Nat)), .i (.int .i64 x.2.1), .i (.int .i64 1)]
  | none => [.i (.int .i64 0), .i (.int .i64 0), .i (.int .i64 0), .i (.int .i64 0)]
end Go.Proofs.Ytiikndppckjmhaa.Am

/- Cuts: codes told in parts, so that a state may say less between them. -/
namespace Go.Proofs.Ytiikndppckjmhaa.Am
set_option autoImplicit false
set_option linter.unusedVariables false
set_option linter.unusedSimpArgs false
section
variable {P : Program} {G : Gl} {own : Tmp → Bool}
theorem W.seq {n : Nat} {x y : Code} {Q : Exit → S → Prop} {s : S} (h : W P G n x (fun e s' => match e with | .normal => W P G n y Q s' | e => Q e s') s) : W P G n (.seq x y) Q s := by
  refine ⟨fun D μ a w hn hg hr => ?_⟩
  refine wp_seq (wp_mono (h.out D μ a w hn hg hr) fun e a' w' hp => ?_)
  obtain ⟨s', μ', h1, h2, h3, h4⟩ := hp
  cases e with
  | normal => exact wp_mono (h1.out D μ' a' w' h4.1 (hg.keep h3) h2) fun e a'' w'' hp => Post.trans h3 h4 hp
  | _ => exact ⟨s', μ', h1, h2, h3, h4⟩
end
section
variable {P : Program} {G : Gl} {own : Tmp → Bool} {ro : Option Nat} {cx : Cx} {Y : Yt} {n : Nat}
theorem Z.seq {x y : Code} {Q : Exit → S → Option Code → Prop} {s : S} {p : Option Code} (h : Z P G ro cx n x (fun e s' p' => match e with | .normal => Z P G ro cx n y Q s' p' | e => Q e s' p') s p) : Z P G ro cx n (.seq x y) Q s p := by
  refine ⟨fun D μ a w B hX hB hn hr hJ => wpIn_seq (wpIn_mono (h.out D μ a w B hX hB hn hr hJ) fun e a' w' hp => ?_)⟩
  obtain ⟨s', μ', p', D', h1, h2, h3, h4, h5, h6⟩ := hp
  cases e with
  | normal => exact wpIn_mono (h2.out D' μ' a' w' B (fun g hg hd => hX g hg (h1.1 g hd)) (Nat.le_trans hB h5.size) h6.1 h3 h4) fun e a'' w'' hp => PostZ.trans h1 h5 h6 hp
  | _ => exact ⟨s', μ', p', D', h1, h2, h3, h4, h5, h6⟩
end
end Go.Proofs.Ytiikndppckjmhaa.Am

/- Contracts: the document's first race behind a script. -/
namespace Go.Proofs.Ytiikndppckjmhaa.Am
set_option autoImplicit false
set_option linter.unusedVariables false
set_option linter.unusedSimpArgs false
set_option maxRecDepth 10000
set_option pp.maxSteps 3000
set_option pp.proofs false
end Go.Proofs.Ytiikndppckjmhaa.Am

/- Contracts: whether a witness holds; the witness of a script. -/
namespace Go.Proofs.Ytiikndppckjmhaa.Am
set_option autoImplicit false
set_option linter.unusedVariables false
set_option linter.unusedSimpArgs false
set_option maxRecDepth 10000
set_option pp.maxSteps 3000
set_option pp.proofs false
def wtV (xs : List (Int × Bool)) (a b c : Int) : V := .agg ((encW xs a b c).map .i)
/-- does a witness hold, and what is wrong first? -/
def holdW (p : Pg) (xs : List (Int × Bool)) (a b c : Int) : Bool × Int :=
  if codeW xs a b c ≠ 0 then (false, codeW xs a b c) else if (chk p).2.2 ≠ 0 then (false, (chk p).2.2) else (pairB (touches p (runC p cfg0 xs)) a b c, 0)
set_option maxHeartbeats 4000000 in
theorem wholds_ok (p : Pg) (hp0 : okPg p) (xs : List (Int × Bool)) (hx : xs.length ≤ 1000) (a b c : Int) : CallW Try.prog G0 61 [pgV p, wtV xs a b c] [] (fun r st' => r = .tup [.i (.bool (holdW p xs a b c).1), .i (.int .i64 (holdW p xs a b c).2)] ∧ st' = []) := by
  refine call_of_bodyF 0 (Nat.le_refl _) Try.func61 rfl (fun a w => Try.call61 a w) (wpx_ok (own := own0) _ _ _ ?_)
  have cw := check13 xs a b c (by omega)
  have cr := run_ok p hp0 xs (by omega)
  unfold holdW
  repeat ((conv => whnf); first | refine Br.t ?_ | refine Br.f ?_ | refine ⟨rfl, ?_⟩)
  conv => whnf
  refine CallW.mono (cw.pure _ rfl rfl) ?_
  rintro r st' ⟨rfl, rfl⟩
  by_cases hw : codeW xs a b c = 0
  · rw [if_neg (by simpa using hw), hw]
    by_cases h0 : (chk p).2.2 = 0
    · have hp := chk_zero h0
      rw [if_neg (by simpa using h0)]
      rw [if_pos h0, h0] at cr
      have hc : OkC p (runC p cfg0 xs) := runC_ok hp xs (cfg0_ok hp)
      have cp := pair_ok p hp _ hc a b c
      repeat ((conv => whnf); first | refine Br.t ?_ | refine Br.f ?_ | refine ⟨rfl, ?_⟩)
      conv => whnf
      refine CallW.mono (cr.pure _ rfl rfl) ?_
      rintro r st' ⟨rfl, rfl⟩
      repeat ((conv => whnf); first | refine Br.t ?_ | refine Br.f ?_ | refine ⟨rfl, ?_⟩)
      conv => whnf
      refine CallW.mono (cp.pure _ rfl rfl) ?_
      rintro r st' ⟨rfl, rfl⟩
      repeat ((conv => whnf); first | refine Br.t ?_ | refine Br.f ?_ | refine ⟨rfl, ?_⟩)
      conv => whnf
      refine fin (target := []) rfl (Nat.zero_le _) (by simp) rfl rfl
    · have hz : ((chk p).2.2 != 0) = true := by simpa using h0
      rw [if_pos h0]
      rw [if_neg h0] at cr
      repeat ((conv => whnf); first | refine Br.t ?_ | refine Br.f ?_ | refine ⟨rfl, ?_⟩)
      conv => whnf
      refine CallW.mono (cr.pure _ rfl rfl) ?_
      rintro r st' ⟨rfl, rfl⟩
      repeat ((conv => whnf); first | refine Br.t ?_ | refine Br.f ?_ | refine ⟨rfl, ?_⟩)
      conv => whnf
      rw [hz]
      repeat ((conv => whnf); first | refine Br.t ?_ | refine Br.f ?_ | refine ⟨rfl, ?_⟩)
      conv => whnf
      refine fin (target := []) rfl (Nat.zero_le _) (by simp) rfl rfl
  · rw [if_pos hw]
    have hz : (codeW xs a b c != 0) = true := by simpa using hw
    repeat ((conv => whnf); first | refine Br.t ?_ | refine Br.f ?_ | refine ⟨rfl, ?_⟩)
    conv => whnf
    rw [hz]
    repeat ((conv => whnf); first | refine Br.t ?_ | refine Br.f ?_ | refine ⟨rfl, ?_⟩)
    conv => whnf
    refine fin (target := []) rfl (Nat.zero_le _) (by simp) rfl rfl
end Go.Proofs.Ytiikndppckjmhaa.Am

/- Contracts: the witness of a script. -/
namespace Go.Proofs.Ytiikndppckjmhaa.Am
set_option autoImplicit false
set_option linter.unusedVariables false
set_option linter.unusedSimpArgs false
set_option maxRecDepth 10000
set_option pp.maxSteps 3000
set_option pp.proofs false
theorem acc_glob {p : Pg} (hp : PgOk p) {c : Cfg} (hc : OkC p c) {u : Nat} (h : isAcc p c u = true) : 0 ≤ (atN p c u).2.1 ∧ (atN p c u).2.1 < 16 := by
  unfold isAcc at h
  simp only [Bool.and_eq_true, Bool.or_eq_true, decide_eq_true_eq] at h
  obtain ⟨hl, hk⟩ := h
  have ea : ndAt p c u = atN p c u := by unfold atN; rw [if_pos hl]
  obtain ⟨_, _, _, L, _, _, _, _, _, _, _, _, hm⟩ := nd_in hp hc hl
  rw [ea] at hm
  have := hp.g
  obtain ⟨_, h2, _⟩ := may_parts hm
  have e : ∀ k : Int, k = 1 ∨ k = 2 → (fieldsF p k L.length).1 = p.g := by rintro k (rfl | rfl) <;> rfl
  rw [e _ hk] at h2
  omega
/-- the witness of who races first -/
def wtT (o : Option (Tc × Tc)) (l : List (Int × Bool)) : List (Int × Bool) × Int × Int × Int := match o with
  | some (x, y) => (l, (x.1 : Nat), (y.1 : Nat), x.2.1)
  | none => ([], 0, 0, 0)
def wtW (W : List (Int × Bool) × Int × Int × Int) : V := wtV W.1 W.2.1 W.2.2.1 W.2.2.2
theorem encP_len3 (l : List (Int × Bool)) : ∀ cs ∈ l.map encP, cs.length = 2 := by
  intro cs h
  simp only [List.mem_map] at h
  obtain ⟨x, _, rfl⟩ := h
  rfl
set_option maxHeartbeats 4000000 in
theorem wof_ok (p : Pg) (hp : PgOk p) (c : Cfg) (hc : OkC p c) (l : List (Int × Bool)) (hl : l.length ≤ 100000) : CallW Try.prog G0 97 [pgV p, cfgV c, .i (.sl (l.map encP))] [] (fun r st' => r = .tup [wtW (wtT (firstR (touches p c)) l), .i (.bool (firstR (touches p c)).isSome)] ∧ st' = []) := by
  refine call_of_bodyF 0 (Nat.le_refl _) Try.func97 rfl (fun a w => Try.call97 a w) (wpx_ok (own := fun t => t == 23) _ _ _ ?_)
  have cf := first_ok p hp c hc
  cases hf : firstR (touches p c) with
  | none =>
    rw [hf] at cf
    repeat ((conv => whnf); first | refine Br.t ?_ | refine Br.f ?_ | refine ⟨rfl, ?_⟩)
    conv => whnf
    refine CallW.mono (cf.pure _ rfl rfl) ?_
    rintro r st' ⟨rfl, rfl⟩
    repeat ((conv => whnf); first | refine Br.t ?_ | refine Br.f ?_ | refine ⟨rfl, ?_⟩)
    conv => whnf
    refine fin (target := []) rfl (Nat.zero_le _) (by simp) rfl rfl
  | some xy =>
    obtain ⟨x, y⟩ := xy
    rw [hf] at cf
    repeat ((conv => whnf); first | refine Br.t ?_ | refine Br.f ?_ | refine ⟨rfl, ?_⟩)
    conv => whnf
    refine CallW.mono (cf.pure _ rfl rfl) ?_
    rintro r st' ⟨rfl, rfl⟩
    repeat ((conv => whnf); first | refine Br.t ?_ | refine Br.f ?_ | refine ⟨rfl, ?_⟩)
    conv => whnf
    refine ⟨apG (es := l.map encP) (encP_len3 l) 16 rfl rfl (by simp [lift]; omega) (len_mx (by simp; omega)), ?_⟩
    repeat ((conv => whnf); first | refine Br.t ?_ | refine Br.f ?_ | refine ⟨rfl, ?_⟩)
    conv => whnf
    refine ⟨Nat.zero_le _, rfl, l.map encP, rfl, ?_⟩
    conv => whnf
    have e1 : List.take (0 + (lift (l.map encP)).length) (List.drop 0 (l.map encP)) = l.map encP := by
      rw [List.drop_zero]; exact List.take_of_length_le (by simp [lift])
    refine fin (target := []) rfl (Nat.zero_le _) (by simp) (by rw [e1]; rfl) rfl
/-- the witness of a script -/
def ofW (p : Pg) (l : List (Int × Bool)) : Option (Tc × Tc) := if codeS l = 0 ∧ (chk p).2.2 = 0 then firstR (touches p (runC p cfg0 l)) else none
set_option maxHeartbeats 4000000 in
theorem wOf_ok (p : Pg) (hp0 : okPg p) (l : List (Int × Bool)) (hl : l.length ≤ 100000) : CallW Try.prog G0 68 [pgV p, .i (.sl (l.map encP))] [] (fun r st' => r = .tup [wtW (wtT (ofW p l) l), .i (.bool (ofW p l).isSome)] ∧ st' = []) := by
  refine call_of_bodyF 0 (Nat.le_refl _) Try.func68 rfl (fun a w => Try.call68 a w) (wpx_ok (own := own0) _ _ _ ?_)
  have cs := put25 l (by omega)
  have cr := run_ok p hp0 l hl
  unfold ofW
  by_cases hs : codeS l = 0
  · rw [if_pos hs, hs] at cs
    by_cases h0 : (chk p).2.2 = 0
    · have hp := chk_zero h0
      rw [if_pos ⟨hs, h0⟩]
      rw [if_pos h0, h0] at cr
      have co := wof_ok p hp _ (runC_ok hp l (cfg0_ok hp)) l hl
      obtain ⟨o, ho⟩ : ∃ o, o = firstR (touches p (runC p cfg0 l)) := ⟨_, rfl⟩
      rw [← ho] at co ⊢
      repeat ((conv => whnf); first | refine Br.t ?_ | refine Br.f ?_ | refine ⟨rfl, ?_⟩)
      conv => whnf
      refine CallW.mono (cs.pure _ rfl rfl) ?_
      rintro r st' ⟨rfl, rfl⟩
      repeat ((conv => whnf); first | refine Br.t ?_ | refine Br.f ?_ | refine ⟨rfl, ?_⟩)
      conv => whnf
      refine CallW.mono (cr.pure _ rfl rfl) ?_
      rintro r st' ⟨rfl, rfl⟩
      repeat ((conv => whnf); first | refine Br.t ?_ | refine Br.f ?_ | refine ⟨rfl, ?_⟩)
      conv => whnf
      refine CallW.mono (co.pure _ rfl rfl) ?_
      rintro r st' ⟨rfl, rfl⟩
      repeat ((conv => whnf); first | refine Br.t ?_ | refine Br.f ?_ | refine ⟨rfl, ?_⟩)
      conv => whnf
      refine fin (target := []) rfl (Nat.zero_le _) (by simp) rfl rfl
    · have hz : ((chk p).2.2 != 0) = true := by simpa using h0
      rw [if_neg (fun h => h0 h.2)]
      rw [if_neg h0] at cr
      repeat ((conv => whnf); first | refine Br.t ?_ | refine Br.f ?_ | refine ⟨rfl, ?_⟩)
      conv => whnf
      refine CallW.mono (cs.pure _ rfl rfl) ?_
      rintro r st' ⟨rfl, rfl⟩
      repeat ((conv => whnf); first | refine Br.t ?_ | refine Br.f ?_ | refine ⟨rfl, ?_⟩)
      conv => whnf
      refine CallW.mono (cr.pure _ rfl rfl) ?_
      rintro r st' ⟨rfl, rfl⟩
      repeat ((conv => whnf); first | refine Br.t ?_ | refine Br.f ?_ | refine ⟨rfl, ?_⟩)
      conv => whnf
      rw [hz]
      repeat ((conv => whnf); first | refine Br.t ?_ | refine Br.f ?_ | refine ⟨rfl, ?_⟩)
      conv => whnf
      refine fin (target := []) rfl (Nat.zero_le _) (by simp) rfl rfl
  · rw [if_neg (fun h => hs h.1)]
    rw [if_neg hs] at cs
    have hz : (codeS l != 0) = true := by simpa using hs
    repeat ((conv => whnf); first | refine Br.t ?_ | refine Br.f ?_ | refine ⟨rfl, ?_⟩)
    conv => whnf
    refine CallW.mono (cs.pure _ rfl rfl) ?_
    rintro r st' ⟨rfl, rfl⟩
    repeat ((conv => whnf); first | refine Br.t ?_ | refine Br.f ?_ | refine ⟨rfl, ?_⟩)
    conv => whnf
    rw [hz]
    repeat ((conv => whnf); first | refine Br.t ?_ | refine Br.f ?_ | refine ⟨rfl, ?_⟩)
    conv => whnf
    refine fin (target := []) rfl (Nat.zero_le _) (by simp) rfl rfl
/-- who races first makes a witness that holds -/
theorem of_holds {p : Pg} (h0 : (chk p).2.2 = 0) {l : List (Int × Bool)} (hs : codeS l = 0) {x y : Tc} (h : firstR (touches p (runC p cfg0 l)) = some (x, y)) : holdW p l (x.1 : Nat) (y.1 : Nat) x.2.1 = (true, 0) := by
  have hp := chk_zero h0
  have hc : OkC p (runC p cfg0 l) := runC_ok hp l (cfg0_ok hp)
  obtain ⟨h1, h2, h3, h4⟩ := firstR_some (touchL_pw p _ _) h
  have hp1 := pairB_of h1 h2 h3
  obtain ⟨r1, a1, t1⟩ := first_in_range h1
  obtain ⟨r2, a2, t2⟩ := first_in_range h2
  have hg := acc_glob hp hc a1
  have hn := hc.n.2
  have ex : x.2.1 = (atN p (runC p cfg0 l) x.1).2.1 := by rw [t1]; rfl
  have hcw : codeW l (x.1 : Nat) (y.1 : Nat) x.2.1 = 0 := by
    unfold codeW
    rw [if_pos hs, if_pos]
    unfold okW
    simp
    omega
  unfold holdW
  rw [if_neg (by simpa using hcw), if_neg (by simpa using h0), hp1]
end Go.Proofs.Ytiikndppckjmhaa.Am
