/- Contracts: who stands at an access, who races, who does first. -/
import Derived.Test.YtiikndppckjmhaaSmH
namespace Go.Proofs.Ytiikndppckjmhaa.Am
set_option autoImplicit false
set_option linter.unusedVariables false
set_option linter.unusedSimpArgs false
set_option maxRecDepth 10000
set_option pp.maxSteps 3000
set_option pp.proofs false
theorem accessN (n : Nd) : CallW Try.prog G0 88 [ndV n] [] (fun r st' => r = .tup [.i (.int .i64 n.2.1), .i (.bool (decide (n.1 = 2))), .i (.bool (decide (n.1 = 1) || decide (n.1 = 2)))] ∧ st' = []) := by
  refine call_of_bodyF 0 (Nat.le_refl _) Try.func88 rfl (fun a w => Try.call88 a w) (wpx_ok (own := own0) _ _ _ ?_)
  repeat ((conv => whnf); first | refine Br.t ?_ | refine Br.f ?_ | refine ⟨rfl, ?_⟩)
  conv => whnf
  refine draw_ok (own := own0) [] [] [] rfl (by kernel_rfl) (Nat.zero_le _) ?_
  repeat ((conv => whnf); first | refine Br.t ?_ | refine Br.f ?_ | refine ⟨rfl, ?_⟩)
  conv => whnf
  refine Br.mk (fun h => ?_) (fun h => ?_)
  · repeat ((conv => whnf); first | refine Br.t ?_ | refine Br.f ?_ | refine ⟨rfl, ?_⟩)
    conv => whnf
    refine ⟨by repeat ((conv => whnf); first | exact trivial | refine ⟨rfl, ?_⟩), trivial, ?_⟩
    conv => whnf
    refine fin (target := []) rfl (Nat.zero_le _) (by simp) ?_ rfl
    simp at h
    simp [h]
  · repeat ((conv => whnf); first | refine Br.t ?_ | refine Br.f ?_ | refine ⟨rfl, ?_⟩)
    conv => whnf
    refine ⟨by repeat ((conv => whnf); first | exact trivial | refine ⟨rfl, ?_⟩), trivial, ?_⟩
    conv => whnf
    refine fin (target := []) rfl (Nat.zero_le _) (by simp) ?_ rfl
    simp at h
    simp [h]
    rfl
abbrev Tc := Nat × Int × Bool
def encT (x : Tc) : List I := [.int .i64 (x.1 : Nat), .int .i64 x.2.1, .bool x.2.2]
def tcV (x : Tc) : V := .agg ((encT x).map .i)
def tcB (x : Tc) : Ob := .row 0 3 false [(encT x).map .i]
def isAcc (p : Pg) (c : Cfg) (t : Nat) : Bool := lives c (t : Int) && (decide ((atN p c t).1 = 1) || decide ((atN p c t).1 = 2))
def touchL (p : Pg) (c : Cfg) : Nat → List Tc
  | 0 => []
  | t + 1 => touchL p c t ++ if isAcc p c t = true then [(t, (atN p c t).2.1, decide ((atN p c t).1 = 2))] else []
def touches (p : Pg) (c : Cfg) : List Tc := touchL p c c.ths.length
theorem touchL_len (p : Pg) (c : Cfg) : ∀ t, (touchL p c t).length ≤ t
  | 0 => Nat.le_refl _
  | t + 1 => by
    have := touchL_len p c t
    rw [touchL, List.length_append]
    split
    · simp; omega
    · simp; omega
def tcR (L : List Tc) : Ob := .row 1 3 false (lift (L.map encT))
theorem tcR_cl (p : Pg) (c : Cfg) (L : List Tc) (m : Nat) : ∀ o ∈ [pgB p, cfgB c, tcR L], o.cl m := by
  intro o ho
  simp only [List.mem_cons, List.not_mem_nil, or_false] at ho
  rcases ho with rfl | rfl | rfl
  · exact pgB_cl p m
  · exact cfgB_cl c m
  · exact row_cl 1 3 (L.map encT) m _ (by simp [tcR])
def tcS (c : Cfg) (L : List Tc) (t : Nat) : List V := mkS 44 [(2, .ptr 0 0 0 0), (3, .ptr 1 0 0 0), (5, .ref 2 1 0 L.length), (14, .i (.int .i64 c.ths.length)), (15, .i (.int .i64 t))]
set_option maxHeartbeats 1000000 in
theorem touches_ok (p : Pg) (hp : PgOk p) (c : Cfg) (hc : OkC p c) : CallW Try.prog G0 47 [pgV p, cfgV c] [] (fun r st' => r = .i (.sl ((touches p c).map encT)) ∧ st' = []) := by
  refine call_of_bodyF 0 (Nat.le_refl _) Try.func47 rfl (fun a w => Try.call47 a w) (wpx_ok (own := own0) _ _ _ ?_)
  have hn := hc.n.2
  repeat ((conv => whnf); first | refine Br.t ?_ | refine Br.f ?_ | refine ⟨rfl, ?_⟩)
  conv => whnf
  refine loop_ok (α := Nat) (fun t => ⟨tcS c (touchL p c t) t, [pgB p, cfgB c, tcR (touchL p c t)]⟩)
    (fun t => t ≤ c.ths.length) (fun t => c.ths.length - t) 0 (Nat.zero_le _) ((Le.nil (n := 0) 5 3 rfl).trans (Le.slots (by simp [leS, mkS, tcS, touchL]))) (fun t ht => wpx_ok (own := own0) _ _ _ ?_)
  have hL := touchL_len p c t
  repeat ((conv => whnf); first | refine Br.t ?_ | refine Br.f ?_ | refine ⟨rfl, ?_⟩)
  conv => whnf
  refine Br.mk (fun g => ?_) (fun g => ?_)
  · have g : t < c.ths.length := by simpa using g
    have ca := at_ok p hp c hc (t : Int)
    obtain ⟨y, hy⟩ : ∃ y, y = atN p c t := ⟨_, rfl⟩
    obtain ⟨q, hq⟩ : ∃ q, q = lives c (t : Int) := ⟨_, rfl⟩
    have eT : touchL p c (t + 1) = touchL p c t ++ if (q && (decide (y.1 = 1) || decide (y.1 = 2))) = true then [(t, y.2.1, decide (y.1 = 2))] else [] := by rw [touchL, isAcc, hy, hq]
    rw [← hy, ← hq] at ca
    have cx := accessN y
    obtain ⟨a, ha⟩ : ∃ a, a = (decide (y.1 = 1) || decide (y.1 = 2)) := ⟨_, rfl⟩
    rw [← ha] at cx eT
    repeat ((conv => whnf); first | refine Br.t ?_ | refine Br.f ?_ | refine ⟨rfl, ?_⟩)
    conv => whnf
    refine CallW.mono (ca.pure _ rfl rfl) ?_
    rintro r st' ⟨rfl, rfl⟩
    repeat ((conv => whnf); first | refine Br.t ?_ | refine Br.f ?_ | refine ⟨rfl, ?_⟩)
    conv => whnf
    refine CallW.mono (cx.pure _ rfl rfl) ?_
    rintro r st' ⟨rfl, rfl⟩
    cases q with
    | false =>
      rw [Bool.false_and, if_neg (by simp), List.append_nil] at eT
      repeat ((conv => whnf); first | refine Br.t ?_ | refine Br.f ?_ | refine ⟨rfl, ?_⟩)
      conv => whnf
      refine ⟨t + 1, by omega, by omega, Le.back (fun _ => 0) (by intro id hid; rfl) (by simp) rfl (tcR_cl p c _ _) ?_ ?_⟩
      · rw [eT]
        simp [leS, mkS, tcS, V.up]
        exact i64_id (by omega) (by omega)
      · rw [eT]
        simp only [upSt, Ob.up, map_up_lift, tcR]
        rfl
    | true =>
      cases a with
      | false =>
        rw [Bool.true_and, if_neg (by simp), List.append_nil] at eT
        repeat ((conv => whnf); first | refine Br.t ?_ | refine Br.f ?_ | refine ⟨rfl, ?_⟩)
        conv => whnf
        refine ⟨t + 1, by omega, by omega, Le.back (fun _ => 0) (by intro id hid; rfl) (by simp) rfl (tcR_cl p c _ _) ?_ ?_⟩
        · rw [eT]
          simp [leS, mkS, tcS, V.up]
          exact i64_id (by omega) (by omega)
        · rw [eT]
          simp only [upSt, Ob.up, map_up_lift, tcR]
          rfl
      | true =>
        rw [Bool.true_and, if_pos rfl] at eT
        repeat ((conv => whnf); first | refine Br.t ?_ | refine Br.f ?_ | refine ⟨rfl, ?_⟩)
        conv => whnf
        refine ⟨⟨by intro cs hcs; simp at hcs; subst hcs; rfl, by simp [lift], by show ((touchL p c t).length + 1) * 24 ≤ _; omega, len_mx (by simp [lift]; omega)⟩, ?_⟩
        repeat ((conv => whnf); first | refine Br.t ?_ | refine Br.f ?_ | refine ⟨rfl, ?_⟩)
        conv => whnf
        refine ⟨t + 1, by omega, by omega, Le.back (fun id => if id = 2 then 1 else 0) (by intro id hid; simp at hid) (by simp) rfl (tcR_cl p c _ _) ?_ ?_⟩
        · rw [eT]
          simp [leS, mkS, tcS, V.up, lift]
          exact i64_id (by omega) (by omega)
        · rw [eT]
          simp only [upSt, Ob.up, map_up_lift, List.map_append, lift_app, tcR, List.cons_append, List.nil_append]
          rfl
  · have g : t = c.ths.length := by simp at g; omega
    subst g
    repeat ((conv => whnf); first | refine Br.t ?_ | refine Br.f ?_ | refine ⟨rfl, ?_⟩)
    conv => whnf
    refine ⟨Nat.zero_le _, rfl, (touches p c).map encT, rfl, ?_⟩
    refine fin (target := []) rfl (Nat.zero_le _) (by simp) ?_ rfl
    simp [touches, List.take_of_length_le]
def agB (x y : Tc) : Bool := decide (x.1 ≠ y.1) && (decide (x.2.1 = y.2.1) && (x.2.2 || y.2.2))
theorem against_ok (x y : Tc) : CallW Try.prog G0 84 [tcV x, tcV y] [] (fun r st' => r = .i (.bool (agB x y)) ∧ st' = []) := by
  refine call_of_bodyF 0 (Nat.le_refl _) Try.func84 rfl (fun a w => Try.call84 a w) (wpx_ok (own := own0) _ _ _ ?_)
  obtain ⟨x1, x2, x3⟩ := x
  obtain ⟨y1, y2, y3⟩ := y
  repeat ((conv => whnf); first | refine Br.t ?_ | refine Br.f ?_ | refine ⟨rfl, ?_⟩)
  conv => whnf
  refine Br.mk (fun h => ?_) (fun h => ?_)
  · have u1 : x1 ≠ y1 := by simp at h; omega
    repeat ((conv => whnf); first | refine Br.t ?_ | refine Br.f ?_ | refine ⟨rfl, ?_⟩)
    conv => whnf
    refine Br.mk (fun h2 => ?_) (fun h2 => ?_)
    · have u2 : x2 = y2 := by simpa using h2
      cases x3 with
      | true =>
        repeat ((conv => whnf); first | refine Br.t ?_ | refine Br.f ?_ | refine ⟨rfl, ?_⟩)
        conv => whnf
        refine fin (target := []) rfl (Nat.zero_le _) (by simp) ?_ rfl
        simp [agB, u1, u2]
      | false =>
        repeat ((conv => whnf); first | refine Br.t ?_ | refine Br.f ?_ | refine ⟨rfl, ?_⟩)
        conv => whnf
        refine fin (target := []) rfl (Nat.zero_le _) (by simp) ?_ rfl
        simp [agB, u1, u2]
    · have u2 : x2 ≠ y2 := by simpa using h2
      repeat ((conv => whnf); first | refine Br.t ?_ | refine Br.f ?_ | refine ⟨rfl, ?_⟩)
      conv => whnf
      refine fin (target := []) rfl (Nat.zero_le _) (by simp) ?_ rfl
      simp [agB, u1, u2]
  · have u1 : x1 = y1 := by simp at h; omega
    repeat ((conv => whnf); first | refine Br.t ?_ | refine Br.f ?_ | refine ⟨rfl, ?_⟩)
    conv => whnf
    refine fin (target := []) rfl (Nat.zero_le _) (by simp) ?_ rfl
    simp [agB, u1]
def firstR : List Tc → Option (Tc × Tc)
  | [] => none
  | x :: r => match r.find? (fun y => agB x y) with | some y => some (x, y) | none => firstR r
def firstT (o : Option (Tc × Tc)) : List V := match o with
  | some (x, y) => [.i (.int .i64 (x.1 : Nat)), .i (.int .i64 (y.1 : Nat)), .i (.int .i64 x.2.1), .i (.bool true)]
  | none => [.i (.int .i64 0), .i (.int .i64 0), .i (.int .i64 0), .i (.bool false)]
def fsS (L : List Tc) (i : Nat) (x : List (Nat × V)) : List V := mkS 43 ([(2, .ptr 0 0 0 0), (3, .ptr 1 0 0 0), (8, .i (.sl (L.map encT))), (16, .i (.sl (L.map encT))), (17, .i (.int .i64 L.length)), (18, .i (.int .i64 i))] ++ x)
theorem fsB_cl (p : Pg) (c : Cfg) (x : Tc) (m : Nat) : ∀ o ∈ [pgB p, cfgB c, tcB x], o.cl m := by
  intro o ho
  simp only [List.mem_cons, List.not_mem_nil, or_false] at ho
  rcases ho with rfl | rfl | rfl
  · exact pgB_cl p m
  · exact cfgB_cl c m
  · intro cs hcs; simp only [List.mem_singleton] at hcs; subst hcs; rfl
set_option maxHeartbeats 1000000 in
theorem first_in (p : Pg) (c : Cfg) (L : List Tc) (i : Nat) (x : Tc) (r : List Tc) (hr : r.length ≤ 8) (Q : Exit → S → Prop)
    (hyes : ∀ y, r.find? (fun y => agB x y) = some y → Q .ret ⟨mkS 43 [(4, .i (.int .i64 (x.1 : Nat))), (5, .i (.int .i64 (y.1 : Nat))), (6, .i (.int .i64 x.2.1)), (7, .i (.bool true))], [pgB p, cfgB c]⟩)
    (hno : r.find? (fun y => agB x y) = none → Q (.exit 2) ⟨fsS L i [], [pgB p, cfgB c]⟩) :
    W Try.prog G0 0 (.loop (lp Try.f44 1)) Q ⟨fsS L i [(10, .ptr 2 0 0 0), (26, .i (.sl (r.map encT))), (27, .i (.int .i64 r.length)), (28, .i (.int .i64 0))], [pgB p, cfgB c, tcB x]⟩ := by
  refine W.weak (loop_ok (α := Nat) (fun j => ⟨fsS L i [(10, .ptr 2 0 0 0), (26, .i (.sl (r.map encT))), (27, .i (.int .i64 r.length)), (28, .i (.int .i64 j))], [pgB p, cfgB c, tcB x]⟩)
    (fun j => j ≤ r.length ∧ (r.drop j).find? (fun y => agB x y) = r.find? fun y => agB x y) (fun j => r.length - j) 0 ⟨Nat.zero_le _, rfl⟩ (Le.refl _ _) (fun j hj => wpx_ok (own := own0) _ _ _ ?_))
  obtain ⟨h1, h2⟩ := hj
  repeat ((conv => whnf); first | refine Br.t ?_ | refine Br.f ?_ | refine ⟨rfl, ?_⟩)
  conv => whnf
  refine Br.mk (fun g => ?_) (fun g => ?_)
  · have g : j < r.length := by simpa using g
    obtain ⟨y, hy⟩ : ∃ y, y = r[j] := ⟨_, rfl⟩
    have ey : (r.map encT).getD (j : Int).toNat [] = encT y := by rw [hy]; exact getD_enc g
    have ed : r.drop j = y :: r.drop (j + 1) := by rw [hy]; exact List.drop_eq_getElem_cons g
    rw [ed, List.find?_cons] at h2
    have cg := against_ok x y
    obtain ⟨q, hq⟩ : ∃ q, q = agB x y := ⟨_, rfl⟩
    rw [← hq] at cg h2
    repeat ((conv => whnf); first | refine Br.t ?_ | refine Br.f ?_ | refine ⟨rfl, ?_⟩)
    conv => whnf
    rw [ey]
    refine ⟨⟨by omega, by simp; omega, rfl⟩, ?_⟩
    repeat ((conv => whnf); first | refine Br.t ?_ | refine Br.f ?_ | refine ⟨rfl, ?_⟩)
    conv => whnf
    refine CallW.mono (cg.pure _ rfl rfl) ?_
    rintro r0 st' ⟨rfl, rfl⟩
    cases q with
    | true =>
      simp only at h2
      repeat ((conv => whnf); first | refine Br.t ?_ | refine Br.f ?_ | refine ⟨rfl, ?_⟩)
      conv => whnf
      refine draw_ok (own := own0) [] [] [] rfl (by kernel_rfl) (Nat.zero_le _) ?_
      repeat ((conv => whnf); first | refine Br.t ?_ | refine Br.f ?_ | refine ⟨rfl, ?_⟩)
      conv => whnf
      refine ⟨by repeat ((conv => whnf); first | exact trivial | refine ⟨rfl, ?_⟩), trivial, ?_⟩
      conv => whnf
      repeat ((conv => whnf); first | refine Br.t ?_ | refine Br.f ?_ | refine ⟨rfl, ?_⟩)
      conv => whnf
      refine ⟨_, Le.back (s := ⟨mkS 43 [(4, .i (.int .i64 (x.1 : Nat))), (5, .i (.int .i64 (y.1 : Nat))), (6, .i (.int .i64 x.2.1)), (7, .i (.bool true))], [pgB p, cfgB c]⟩) (fun _ => 0) (by intro id hid; rfl) (by simp) rfl (B2_cl p c _) ?_ rfl, hyes y h2.symm⟩
      simp [leS, mkS, fsS, V.up]
    | false =>
      simp only at h2
      repeat ((conv => whnf); first | refine Br.t ?_ | refine Br.f ?_ | refine ⟨rfl, ?_⟩)
      conv => whnf
      refine ⟨j + 1, ⟨by omega, h2⟩, by omega, Le.back (fun _ => 0) (by intro id hid; rfl) (by simp) rfl (fsB_cl p c x _) ?_ rfl⟩
      simp [leS, mkS, fsS, V.up]
      exact i64_id (by omega) (by omega)
  · have g : j = r.length := by simp at g; omega
    subst g
    rw [List.drop_length, List.find?_nil] at h2
    repeat ((conv => whnf); first | refine Br.t ?_ | refine Br.f ?_ | refine ⟨rfl, ?_⟩)
    conv => whnf
    refine ⟨_, Le.back (s := ⟨fsS L i [], [pgB p, cfgB c]⟩) (fun _ => 0) (by intro id hid; rfl) (by simp) rfl (B2_cl p c _) ?_ rfl, hno h2.symm⟩
    simp [leS, mkS, fsS, V.up]
set_option maxHeartbeats 1000000 in
theorem first_ok (p : Pg) (hp : PgOk p) (c : Cfg) (hc : OkC p c) : CallW Try.prog G0 44 [pgV p, cfgV c] [] (fun r st' => r = .tup (firstT (firstR (touches p c))) ∧ st' = []) := by
  refine call_of_bodyF 0 (Nat.le_refl _) Try.func44 rfl (fun a w => Try.call44 a w) (wpx_ok (own := own0) _ _ _ ?_)
  have ct := touches_ok p hp c hc
  have hlen : (touches p c).length ≤ 8 := Nat.le_trans (touchL_len p c _) hc.n.2
  obtain ⟨L, hL⟩ : ∃ L, L = touches p c := ⟨_, rfl⟩
  rw [← hL] at ct hlen ⊢
  repeat ((conv => whnf); first | refine Br.t ?_ | refine Br.f ?_ | refine ⟨rfl, ?_⟩)
  conv => whnf
  refine CallW.mono (ct.pure _ rfl rfl) ?_
  rintro r st' ⟨rfl, rfl⟩
  repeat ((conv => whnf); first | refine Br.t ?_ | refine Br.f ?_ | refine ⟨rfl, ?_⟩)
  conv => whnf
  refine loop_ok (α := Nat) (fun i => ⟨fsS L i [], [pgB p, cfgB c]⟩)
    (fun i => i ≤ L.length ∧ firstR (L.drop i) = firstR L) (fun i => L.length - i) 0 ⟨Nat.zero_le _, rfl⟩ (Le.slots (by simp [leS, mkS, fsS])) (fun i hi => wpx_ok (own := own0) _ _ _ ?_)
  obtain ⟨h1, h2⟩ := hi
  repeat ((conv => whnf); first | refine Br.t ?_ | refine Br.f ?_ | refine ⟨rfl, ?_⟩)
  conv => whnf
  refine Br.mk (fun g => ?_) (fun g => ?_)
  · have g : i < L.length := by simpa using g
    obtain ⟨x, hx⟩ : ∃ x, x = L[i] := ⟨_, rfl⟩
    have ex : (L.map encT).getD (i : Int).toNat [] = encT x := by rw [hx]; exact getD_enc g
    have ed : L.drop i = x :: L.drop (i + 1) := by rw [hx]; exact List.drop_eq_getElem_cons g
    rw [ed, firstR] at h2
    repeat ((conv => whnf); first | refine Br.t ?_ | refine Br.f ?_ | refine ⟨rfl, ?_⟩)
    conv => whnf
    rw [ex]
    refine ⟨⟨by omega, by simp; omega, rfl⟩, ?_⟩
    repeat ((conv => whnf); first | refine Br.t ?_ | refine Br.f ?_ | refine ⟨rfl, ?_⟩)
    conv => whnf
    rw [i64_id (by omega) (by omega)]
    have es : List.take ((((L.map encT).length : Nat) : Int).toNat - ((i : Int) + 1).toNat) (List.drop ((i : Int) + 1).toNat (L.map encT)) = (L.drop (i + 1)).map encT := by
      rw [show ((i : Int) + 1).toNat = i + 1 by omega, List.map_drop, List.take_of_length_le (by simp)]
    rw [es]
    refine ⟨⟨by omega, by simp; omega, Int.le_refl _, by intro cs hcs; simp only [List.mem_map] at hcs; obtain ⟨y, _, rfl⟩ := hcs; rfl⟩, ?_⟩
    repeat ((conv => whnf); first | refine Br.t ?_ | refine Br.f ?_ | refine ⟨rfl, ?_⟩)
    conv => whnf
    refine W.le (Le.slots (sl' := fsS L i [(10, .ptr 2 0 0 0), (26, .i (.sl ((L.drop (i + 1)).map encT))), (27, .i (.int .i64 (L.drop (i + 1)).length)), (28, .i (.int .i64 0))]) (by simp [leS, mkS, fsS])) (first_in p c L i x (L.drop (i + 1)) (by simp; omega) _ (fun y hf => ?_) (fun hf => ?_))
    · rw [hf] at h2
      simp only at h2
      rw [← h2]
      repeat ((conv => whnf); first | refine Br.t ?_ | refine Br.f ?_ | refine ⟨rfl, ?_⟩)
      conv => whnf
      refine fin (target := []) rfl (Nat.zero_le _) (by simp) rfl rfl
    · rw [hf] at h2
      simp only at h2
      repeat ((conv => whnf); first | refine Br.t ?_ | refine Br.f ?_ | refine ⟨rfl, ?_⟩)
      conv => whnf
      refine ⟨i + 1, ⟨by omega, h2⟩, by omega, Le.slots ?_⟩
      simp [leS, mkS, fsS]
      exact i64_id (by omega) (by omega)
  · have g : i = L.length := by simp at g; omega
    subst g
    rw [List.drop_length, firstR] at h2
    rw [← h2]
    repeat ((conv => whnf); first | refine Br.t ?_ | refine Br.f ?_ | refine ⟨rfl, ?_⟩)
    conv => whnf
    refine fin (target := []) rfl (Nat.zero_le _) (by simp) rfl rfl
end Go.Proofs.Ytiikndppckjmhaa.Am
