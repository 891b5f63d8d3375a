/- Contract: threads that race still do, when others do their steps. -/
import Derived.Test.YtiikndppckjmhaaRbA
namespace Go.Proofs.Ytiikndppckjmhaa.Am
set_option autoImplicit false
set_option linter.unusedVariables false
set_option linter.unusedSimpArgs false
set_option maxRecDepth 10000
set_option pp.maxSteps 3000
set_option pp.proofs false
def eqT (y x : Tc) : Bool := ((y.1 : Int) == (x.1 : Int)) && ((y.2.1 == x.2.1) && ((y.2.2 == x.2.2) && true))
theorem eqT_iff {y x : Tc} : eqT y x = true ↔ y = x := by
  obtain ⟨y1, y2, y3⟩ := y
  obtain ⟨x1, x2, x3⟩ := x
  simp [eqT]
  omega
def rmS (t : Nat) (A B : List Tc) (i : Nat) (x : List (Nat × V)) : List V := mkS 116 ([(9, .i (.int .i64 t)), (15, .i (.sl (A.map encT))), (16, .i (.sl (B.map encT))), (17, .i (.int .i64 i))] ++ x)
set_option maxHeartbeats 2000000 in
theorem rm_in (p : Pg) (c d : Cfg) (A B : List Tc) (hA : A.length ≤ 8) (hB : B.length ≤ 8) (t i : Nat) (x : Tc) (hi : i < A.length) (hx : x = A[i]) (b0 : Bool) (hb : b0 = true ∨ x ∈ B) :
    W Try.prog G0 0 (.loop (lp Try.f11 1)) (fun e s' => e = .exit 2 ∧ s' = ⟨rmS t A B i [(18, .i (.bool true))], [pgB p, cfgB c, cfgB d]⟩) ⟨rmS t A B i [(18, .i (.bool b0)), (19, .i (.int .i64 (0 : Nat)))], [pgB p, cfgB c, cfgB d]⟩ := by
  refine W.weak (loop_ok (α := Nat × Bool) (fun k => ⟨rmS t A B i [(18, .i (.bool k.2)), (19, .i (.int .i64 (k.1 : Nat)))], [pgB p, cfgB c, cfgB d]⟩)
    (fun k => k.1 ≤ B.length ∧ (k.2 = true ∨ x ∈ B.drop k.1)) (fun k => B.length - k.1) (0, b0) ⟨Nat.zero_le _, hb⟩ (Le.refl _ _) (fun k hk => wpx_ok (own := own0) _ _ _ ?_))
  obtain ⟨k, b⟩ := k
  simp only at hk ⊢
  obtain ⟨hk1, hk2⟩ := hk
  have ex : (A.map encT).getD (i : Int).toNat [] = encT x := by rw [hx]; exact getD_enc hi
  repeat ((conv => whnf); first | refine Br.t ?_ | refine Br.f ?_ | refine ⟨rfl, ?_⟩)
  conv => whnf
  refine Br.mk (fun g => ?_) (fun g => ?_)
  · have g : k < B.length := by simpa using g
    obtain ⟨y, hy⟩ : ∃ y, y = B[k] := ⟨_, rfl⟩
    have ey : (B.map encT).getD (k : Int).toNat [] = encT y := by rw [hy]; exact getD_enc g
    have ed : B.drop k = y :: B.drop (k + 1) := by rw [hy]; exact List.drop_eq_getElem_cons g
    rw [ed] at hk2
    cases b with
    | true =>
      repeat ((conv => whnf); first | refine Br.t ?_ | refine Br.f ?_ | refine ⟨rfl, ?_⟩)
      conv => whnf
      refine draw_ok (own := own0) [] [] [] rfl (by kernel_rfl) (Nat.zero_le _) ?_
      repeat ((conv => whnf); first | refine Br.t ?_ | refine Br.f ?_ | refine ⟨rfl, ?_⟩)
      conv => whnf
      refine ⟨by repeat ((conv => whnf); first | exact trivial | refine ⟨rfl, ?_⟩), trivial, ?_⟩
      conv => whnf
      repeat ((conv => whnf); first | refine Br.t ?_ | refine Br.f ?_ | refine ⟨rfl, ?_⟩)
      conv => whnf
      refine ⟨(k + 1, true), ⟨by simp only; omega, .inl rfl⟩, by simp only; omega, Le.slots ?_⟩
      simp [leS, mkS, rmS]
      exact i64_id (by omega) (by omega)
    | false =>
      have hk3 : eqT y x = true ∨ x ∈ B.drop (k + 1) := by
        rcases hk2 with h | h
        · cases h
        · rcases List.mem_cons.1 h with h | h
          · exact .inl (eqT_iff.2 h.symm)
          · exact .inr h
      repeat ((conv => whnf); first | refine Br.t ?_ | refine Br.f ?_ | refine ⟨rfl, ?_⟩)
      conv => whnf
      refine draw_ok (own := own0) [] [] [] rfl (by kernel_rfl) (Nat.zero_le _) ?_
      repeat ((conv => whnf); first | refine Br.t ?_ | refine Br.f ?_ | refine ⟨rfl, ?_⟩)
      conv => whnf
      rw [ey]
      refine ⟨⟨by omega, by simp; omega, rfl⟩, ?_⟩
      repeat ((conv => whnf); first | refine Br.t ?_ | refine Br.f ?_ | refine ⟨rfl, ?_⟩)
      conv => whnf
      rw [ex]
      refine ⟨⟨by omega, by simp; omega, rfl⟩, ?_⟩
      repeat ((conv => whnf); first | refine Br.t ?_ | refine Br.f ?_ | refine ⟨rfl, ?_⟩)
      conv => whnf
      refine ⟨by kernel_rfl, ?_⟩
      repeat ((conv => whnf); first | refine Br.t ?_ | refine Br.f ?_ | refine ⟨rfl, ?_⟩)
      conv => whnf
      refine ⟨by repeat ((conv => whnf); first | exact trivial | refine ⟨rfl, ?_⟩), trivial, ?_⟩
      conv => whnf
      repeat ((conv => whnf); first | refine Br.t ?_ | refine Br.f ?_ | refine ⟨rfl, ?_⟩)
      conv => whnf
      refine ⟨(k + 1, eqT y x), ⟨by simp only; omega, hk3⟩, by simp only; omega, Le.slots ?_⟩
      simp [leS, mkS, rmS, eqT]
      exact i64_id (by omega) (by omega)
  · have g : k = B.length := by simp at g; omega
    subst g
    rw [List.drop_length] at hk2
    have hb1 : b = true := by
      rcases hk2 with h | h
      · exact h
      · simp at h
    subst hb1
    repeat ((conv => whnf); first | refine Br.t ?_ | refine Br.f ?_ | refine ⟨rfl, ?_⟩)
    conv => whnf
    exact ⟨_, Le.slots (by simp [leS, mkS, rmS]), rfl, rfl⟩
set_option maxHeartbeats 2000000 in
theorem racemore (p : Pg) (hp0 : okPg p) (l : List (Int × Bool)) (hl : okL l) (w : Nat) (hw : w < 256) : CallW Try.prog G0 11 [pgV p, .i (.sl (l.map encP)), .i (.int .u8 (w : Nat))] [] (fun r st' => r = .i (.bool true) ∧ st' = []) := by
  refine call_of_bodyF 0 (Nat.le_refl _) Try.func11 rfl (fun a w => Try.call11 a w) (wpx_ok (own := own0) _ _ _ ?_)
  unfold okL at hl
  repeat ((conv => whnf); first | refine Br.t ?_ | refine Br.f ?_ | refine ⟨rfl, ?_⟩)
  conv => whnf
  refine CallW.mono (raceawake.pure _ rfl rfl) ?_
  rintro r st' ⟨rfl, rfl⟩
  repeat ((conv => whnf); first | refine Br.t ?_ | refine Br.f ?_ | refine ⟨rfl, ?_⟩)
  conv => whnf
  refine CallW.mono ((small16 p hp0).pure _ rfl rfl) ?_
  rintro r st' ⟨rfl, rfl⟩
  repeat ((conv => whnf); first | refine Br.t ?_ | refine Br.f ?_ | refine ⟨rfl, ?_⟩)
  conv => whnf
  refine Br.mk (fun z => ?_) (fun z => ?_)
  · repeat ((conv => whnf); first | refine Br.t ?_ | refine Br.f ?_ | refine ⟨rfl, ?_⟩)
    conv => whnf
    refine CallW.mono (raceawake.pure _ rfl rfl) ?_
    rintro r st' ⟨rfl, rfl⟩
    repeat ((conv => whnf); first | refine Br.t ?_ | refine Br.f ?_ | refine ⟨rfl, ?_⟩)
    conv => whnf
    refine fin (target := []) rfl (Nat.zero_le _) (by simp) rfl rfl
  · repeat ((conv => whnf); first | refine Br.t ?_ | refine Br.f ?_ | refine ⟨rfl, ?_⟩)
    conv => whnf
    refine Br.mk (fun z2 => ?_) (fun z2 => ?_)
    · repeat ((conv => whnf); first | refine Br.t ?_ | refine Br.f ?_ | refine ⟨rfl, ?_⟩)
      conv => whnf
      refine CallW.mono (raceawake.pure _ rfl rfl) ?_
      rintro r st' ⟨rfl, rfl⟩
      repeat ((conv => whnf); first | refine Br.t ?_ | refine Br.f ?_ | refine ⟨rfl, ?_⟩)
      conv => whnf
      refine fin (target := []) rfl (Nat.zero_le _) (by simp) rfl rfl
    · have hll : l.length ≤ 300 := by simp at z2; omega
      have cr := runs_ok p hp0 l (by omega)
      unfold runsV at cr
      by_cases h0 : (chk p).2.2 = 0
      · have hp := chk_zero h0
        rw [if_pos h0, if_pos h0] at cr
        have hc : OkC p (runC p cfg0 l) := runC_ok hp _ (cfg0_ok hp)
        obtain ⟨c, hcc⟩ : ∃ c, c = runC p cfg0 l := ⟨_, rfl⟩
        rw [← hcc] at cr hc
        have hn := hc.n.2
        have ew : (IntKind.i64.wrap (w : Int)).tmod 8 = ((w % 8 : Nat) : Int) := by rw [i64_id (by omega) (by omega)]; rfl
        obtain ⟨t, ht⟩ : ∃ t, t = w % 8 := ⟨_, rfl⟩
        rw [← ht] at ew
        have cs := semstep p hp c hc (t : Int) false
        have hd : OkC p (stepC p c (t : Int) false) := stepC_ok hp hc _ _
        have hmore : ∀ x ∈ touches p c, (x.1 : Int) ≠ t → x ∈ touches p (stepC p c (t : Int) false) := fun x hx hne => step_more (t : Int) false hx hne
        have hsome : ∀ x y, firstR (touches p c) = some (x, y) → (x.1 : Int) ≠ t → (y.1 : Int) ≠ t → pairB (touches p (stepC p c (t : Int) false)) x.1 y.1 x.2.1 = true := fun x y hf h1 h2 => by
          obtain ⟨m1, m2, m3, _⟩ := firstR_some (touchL_pw p c _) hf
          exact pairB_of (hmore x m1 h1) (hmore y m2 h2) m3
        obtain ⟨d, hdd⟩ : ∃ d, d = stepC p c (t : Int) false := ⟨_, rfl⟩
        rw [← hdd] at cs hd hmore hsome
        have cf := first_ok p hp c hc
        have ct1 := touches_ok p hp c hc
        have ct2 := touches_ok p hp d hd
        have cp := fun a b g => pair_ok p hp d hd a b g
        have l1 : (touches p c).length ≤ 8 := Nat.le_trans (touchL_len p c _) hc.n.2
        have l2 : (touches p d).length ≤ 8 := Nat.le_trans (touchL_len p d _) hd.n.2
        obtain ⟨A, hA⟩ : ∃ A, A = touches p c := ⟨_, rfl⟩
        obtain ⟨B, hB⟩ : ∃ B, B = touches p d := ⟨_, rfl⟩
        rw [← hA] at cf ct1 l1 hmore hsome
        rw [← hB] at ct2 l2 hmore hsome cp
        obtain ⟨o, ho⟩ : ∃ o, o = firstR A := ⟨_, rfl⟩
        rw [← ho] at cf hsome
        repeat ((conv => whnf); first | refine Br.t ?_ | refine Br.f ?_ | refine ⟨rfl, ?_⟩)
        conv => whnf
        refine CallW.mono (cr.pure _ rfl rfl) ?_
        rintro r st' ⟨rfl, rfl⟩
        repeat ((conv => whnf); first | refine Br.t ?_ | refine Br.f ?_ | refine ⟨rfl, ?_⟩)
        conv => whnf
        rw [ew]
        refine ⟨by decide, ?_⟩
        repeat ((conv => whnf); first | refine Br.t ?_ | refine Br.f ?_ | refine ⟨rfl, ?_⟩)
        conv => whnf
        refine CallW.mono (cs.pure _ rfl rfl) ?_
        rintro r st' ⟨rfl, rfl⟩
        repeat ((conv => whnf); first | refine Br.t ?_ | refine Br.f ?_ | refine ⟨rfl, ?_⟩)
        conv => whnf
        refine CallW.mono (cf.pure _ rfl (by rcases o with _ | ⟨x, y⟩ <;> rfl)) ?_
        rintro r st' ⟨rfl, rfl⟩
        cases o with
        | none =>
          repeat ((conv => whnf); first | refine Br.t ?_ | refine Br.f ?_ | refine ⟨rfl, ?_⟩)
          conv => whnf
          refine draw_ok (own := own0) [] [] [(.i (.sl (A.map encT)), [pgB p, cfgB c, cfgB d]), (.i (.sl (B.map encT)), [pgB p, cfgB c, cfgB d])] rfl (by kernel_rfl) (Nat.zero_le _) ?_
          repeat ((conv => whnf); first | refine Br.t ?_ | refine Br.f ?_ | refine ⟨rfl, ?_⟩)
          conv => whnf
          refine ⟨ct1.pure _ rfl rfl, ?_⟩
          repeat ((conv => whnf); first | refine Br.t ?_ | refine Br.f ?_ | refine ⟨rfl, ?_⟩)
          conv => whnf
          refine ⟨ct2.pure _ rfl rfl, ?_⟩
          repeat ((conv => whnf); first | refine Br.t ?_ | refine Br.f ?_ | refine ⟨rfl, ?_⟩)
          conv => whnf
          refine ⟨by repeat ((conv => whnf); first | exact trivial | refine ⟨rfl, ?_⟩), trivial, ?_⟩
          conv => whnf
          repeat ((conv => whnf); first | refine Br.t ?_ | refine Br.f ?_ | refine ⟨rfl, ?_⟩)
          conv => whnf
          refine loop_ok (α := Nat) (fun i => ⟨rmS t A B i [], [pgB p, cfgB c, cfgB d]⟩)
            (fun i => i ≤ A.length) (fun i => A.length - i) 0 (Nat.zero_le _) (Le.slots (by simp [leS, mkS, rmS])) (fun i hi => wpx_ok (own := own0) _ _ _ ?_)
          repeat ((conv => whnf); first | refine Br.t ?_ | refine Br.f ?_ | refine ⟨rfl, ?_⟩)
          conv => whnf
          refine Br.mk (fun g => ?_) (fun g => ?_)
          · have g : i < A.length := by simpa using g
            obtain ⟨z, hz⟩ : ∃ z, z = A[i] := ⟨_, rfl⟩
            have ez : (A.map encT).getD (i : Int).toNat [] = encT z := by rw [hz]; exact getD_enc g
            have hin := rm_in p c d A B l1 l2 t i z g hz ((z.1 : Int) == (t : Int)) (by
              by_cases h : (z.1 : Int) = t
              · left; simp [h]
              · right; exact hmore z (by rw [hz]; exact List.getElem_mem _) h)
            repeat ((conv => whnf); first | refine Br.t ?_ | refine Br.f ?_ | refine ⟨rfl, ?_⟩)
            conv => whnf
            rw [ez]
            refine ⟨⟨by omega, by simp; omega, rfl⟩, ?_⟩
            repeat ((conv => whnf); first | refine Br.t ?_ | refine Br.f ?_ | refine ⟨rfl, ?_⟩)
            conv => whnf
            refine W.le (Le.slots (sl' := rmS t A B i [(18, .i (.bool ((z.1 : Int) == (t : Int)))), (19, .i (.int .i64 (0 : Nat)))]) (by simp [leS, mkS, rmS])) (W.mono hin ?_)
            rintro e s' ⟨rfl, rfl⟩
            repeat ((conv => whnf); first | refine Br.t ?_ | refine Br.f ?_ | refine ⟨rfl, ?_⟩)
            conv => whnf
            refine ⟨i + 1, by omega, by omega, Le.slots ?_⟩
            simp [leS, mkS, rmS]
            exact i64_id (by omega) (by omega)
          · repeat ((conv => whnf); first | refine Br.t ?_ | refine Br.f ?_ | refine ⟨rfl, ?_⟩)
            conv => whnf
            refine fin (target := []) rfl (Nat.zero_le _) (by simp) rfl rfl
        | some xy =>
          obtain ⟨x, y⟩ := xy
          have hsm := hsome x y rfl
          repeat ((conv => whnf); first | refine Br.t ?_ | refine Br.f ?_ | refine ⟨rfl, ?_⟩)
          conv => whnf
          refine Br.mk (fun h1 => ?_) (fun h1 => ?_)
          · have h1 : (x.1 : Int) ≠ t := by simpa using h1
            repeat ((conv => whnf); first | refine Br.t ?_ | refine Br.f ?_ | refine ⟨rfl, ?_⟩)
            conv => whnf
            refine Br.mk (fun h2 => ?_) (fun h2 => ?_)
            · have h2 : (y.1 : Int) ≠ t := by simpa using h2
              have cq := cp x.1 y.1 x.2.1
              rw [hsm h1 h2] at cq
              repeat ((conv => whnf); first | refine Br.t ?_ | refine Br.f ?_ | refine ⟨rfl, ?_⟩)
              conv => whnf
              refine CallW.mono (cq.pure _ rfl rfl) ?_
              rintro r st' ⟨rfl, rfl⟩
              repeat ((conv => whnf); first | refine Br.t ?_ | refine Br.f ?_ | refine ⟨rfl, ?_⟩)
              conv => whnf
              refine draw_ok (own := own0) [] [] [(.i (.sl (A.map encT)), [pgB p, cfgB c, cfgB d]), (.i (.sl (B.map encT)), [pgB p, cfgB c, cfgB d])] rfl (by kernel_rfl) (Nat.zero_le _) ?_
              repeat ((conv => whnf); first | refine Br.t ?_ | refine Br.f ?_ | refine ⟨rfl, ?_⟩)
              conv => whnf
              refine ⟨ct1.pure _ rfl rfl, ?_⟩
              repeat ((conv => whnf); first | refine Br.t ?_ | refine Br.f ?_ | refine ⟨rfl, ?_⟩)
              conv => whnf
              refine ⟨ct2.pure _ rfl rfl, ?_⟩
              repeat ((conv => whnf); first | refine Br.t ?_ | refine Br.f ?_ | refine ⟨rfl, ?_⟩)
              conv => whnf
              refine ⟨by repeat ((conv => whnf); first | exact trivial | refine ⟨rfl, ?_⟩), trivial, ?_⟩
              conv => whnf
              repeat ((conv => whnf); first | refine Br.t ?_ | refine Br.f ?_ | refine ⟨rfl, ?_⟩)
              conv => whnf
              refine loop_ok (α := Nat) (fun i => ⟨rmS t A B i [], [pgB p, cfgB c, cfgB d]⟩)
                (fun i => i ≤ A.length) (fun i => A.length - i) 0 (Nat.zero_le _) (Le.slots (by simp [leS, mkS, rmS])) (fun i hi => wpx_ok (own := own0) _ _ _ ?_)
              repeat ((conv => whnf); first | refine Br.t ?_ | refine Br.f ?_ | refine ⟨rfl, ?_⟩)
              conv => whnf
              refine Br.mk (fun g => ?_) (fun g => ?_)
              · have g : i < A.length := by simpa using g
                obtain ⟨z, hz⟩ : ∃ z, z = A[i] := ⟨_, rfl⟩
                have ez : (A.map encT).getD (i : Int).toNat [] = encT z := by rw [hz]; exact getD_enc g
                have hin := rm_in p c d A B l1 l2 t i z g hz ((z.1 : Int) == (t : Int)) (by
                  by_cases h : (z.1 : Int) = t
                  · left; simp [h]
                  · right; exact hmore z (by rw [hz]; exact List.getElem_mem _) h)
                repeat ((conv => whnf); first | refine Br.t ?_ | refine Br.f ?_ | refine ⟨rfl, ?_⟩)
                conv => whnf
                rw [ez]
                refine ⟨⟨by omega, by simp; omega, rfl⟩, ?_⟩
                repeat ((conv => whnf); first | refine Br.t ?_ | refine Br.f ?_ | refine ⟨rfl, ?_⟩)
                conv => whnf
                refine W.le (Le.slots (sl' := rmS t A B i [(18, .i (.bool ((z.1 : Int) == (t : Int)))), (19, .i (.int .i64 (0 : Nat)))]) (by simp [leS, mkS, rmS])) (W.mono hin ?_)
                rintro e s' ⟨rfl, rfl⟩
                repeat ((conv => whnf); first | refine Br.t ?_ | refine Br.f ?_ | refine ⟨rfl, ?_⟩)
                conv => whnf
                refine ⟨i + 1, by omega, by omega, Le.slots ?_⟩
                simp [leS, mkS, rmS]
                exact i64_id (by omega) (by omega)
              · repeat ((conv => whnf); first | refine Br.t ?_ | refine Br.f ?_ | refine ⟨rfl, ?_⟩)
                conv => whnf
                refine fin (target := []) rfl (Nat.zero_le _) (by simp) rfl rfl
            · repeat ((conv => whnf); first | refine Br.t ?_ | refine Br.f ?_ | refine ⟨rfl, ?_⟩)
              conv => whnf
              refine draw_ok (own := own0) [] [] [(.i (.sl (A.map encT)), [pgB p, cfgB c, cfgB d]), (.i (.sl (B.map encT)), [pgB p, cfgB c, cfgB d])] rfl (by kernel_rfl) (Nat.zero_le _) ?_
              repeat ((conv => whnf); first | refine Br.t ?_ | refine Br.f ?_ | refine ⟨rfl, ?_⟩)
              conv => whnf
              refine ⟨ct1.pure _ rfl rfl, ?_⟩
              repeat ((conv => whnf); first | refine Br.t ?_ | refine Br.f ?_ | refine ⟨rfl, ?_⟩)
              conv => whnf
              refine ⟨ct2.pure _ rfl rfl, ?_⟩
              repeat ((conv => whnf); first | refine Br.t ?_ | refine Br.f ?_ | refine ⟨rfl, ?_⟩)
              conv => whnf
              refine ⟨by repeat ((conv => whnf); first | exact trivial | refine ⟨rfl, ?_⟩), trivial, ?_⟩
              conv => whnf
              repeat ((conv => whnf); first | refine Br.t ?_ | refine Br.f ?_ | refine ⟨rfl, ?_⟩)
              conv => whnf
              refine loop_ok (α := Nat) (fun i => ⟨rmS t A B i [], [pgB p, cfgB c, cfgB d]⟩)
                (fun i => i ≤ A.length) (fun i => A.length - i) 0 (Nat.zero_le _) (Le.slots (by simp [leS, mkS, rmS])) (fun i hi => wpx_ok (own := own0) _ _ _ ?_)
              repeat ((conv => whnf); first | refine Br.t ?_ | refine Br.f ?_ | refine ⟨rfl, ?_⟩)
              conv => whnf
              refine Br.mk (fun g => ?_) (fun g => ?_)
              · have g : i < A.length := by simpa using g
                obtain ⟨z, hz⟩ : ∃ z, z = A[i] := ⟨_, rfl⟩
                have ez : (A.map encT).getD (i : Int).toNat [] = encT z := by rw [hz]; exact getD_enc g
                have hin := rm_in p c d A B l1 l2 t i z g hz ((z.1 : Int) == (t : Int)) (by
                  by_cases h : (z.1 : Int) = t
                  · left; simp [h]
                  · right; exact hmore z (by rw [hz]; exact List.getElem_mem _) h)
                repeat ((conv => whnf); first | refine Br.t ?_ | refine Br.f ?_ | refine ⟨rfl, ?_⟩)
                conv => whnf
                rw [ez]
                refine ⟨⟨by omega, by simp; omega, rfl⟩, ?_⟩
                repeat ((conv => whnf); first | refine Br.t ?_ | refine Br.f ?_ | refine ⟨rfl, ?_⟩)
                conv => whnf
                refine W.le (Le.slots (sl' := rmS t A B i [(18, .i (.bool ((z.1 : Int) == (t : Int)))), (19, .i (.int .i64 (0 : Nat)))]) (by simp [leS, mkS, rmS])) (W.mono hin ?_)
                rintro e s' ⟨rfl, rfl⟩
                repeat ((conv => whnf); first | refine Br.t ?_ | refine Br.f ?_ | refine ⟨rfl, ?_⟩)
                conv => whnf
                refine ⟨i + 1, by omega, by omega, Le.slots ?_⟩
                simp [leS, mkS, rmS]
                exact i64_id (by omega) (by omega)
              · repeat ((conv => whnf); first | refine Br.t ?_ | refine Br.f ?_ | refine ⟨rfl, ?_⟩)
                conv => whnf
                refine fin (target := []) rfl (Nat.zero_le _) (by simp) rfl rfl
          · repeat ((conv => whnf); first | refine Br.t ?_ | refine Br.f ?_ | refine ⟨rfl, ?_⟩)
            conv => whnf
            refine draw_ok (own := own0) [] [] [(.i (.sl (A.map encT)), [pgB p, cfgB c, cfgB d]), (.i (.sl (B.map encT)), [pgB p, cfgB c, cfgB d])] rfl (by kernel_rfl) (Nat.zero_le _) ?_
            repeat ((conv => whnf); first | refine Br.t ?_ | refine Br.f ?_ | refine ⟨rfl, ?_⟩)
            conv => whnf
            refine ⟨ct1.pure _ rfl rfl, ?_⟩
            repeat ((conv => whnf); first | refine Br.t ?_ | refine Br.f ?_ | refine ⟨rfl, ?_⟩)
            conv => whnf
            refine ⟨ct2.pure _ rfl rfl, ?_⟩
            repeat ((conv => whnf); first | refine Br.t ?_ | refine Br.f ?_ | refine ⟨rfl, ?_⟩)
            conv => whnf
            refine ⟨by repeat ((conv => whnf); first | exact trivial | refine ⟨rfl, ?_⟩), trivial, ?_⟩
            conv => whnf
            repeat ((conv => whnf); first | refine Br.t ?_ | refine Br.f ?_ | refine ⟨rfl, ?_⟩)
            conv => whnf
            refine loop_ok (α := Nat) (fun i => ⟨rmS t A B i [], [pgB p, cfgB c, cfgB d]⟩)
              (fun i => i ≤ A.length) (fun i => A.length - i) 0 (Nat.zero_le _) (Le.slots (by simp [leS, mkS, rmS])) (fun i hi => wpx_ok (own := own0) _ _ _ ?_)
            repeat ((conv => whnf); first | refine Br.t ?_ | refine Br.f ?_ | refine ⟨rfl, ?_⟩)
            conv => whnf
            refine Br.mk (fun g => ?_) (fun g => ?_)
            · have g : i < A.length := by simpa using g
              obtain ⟨z, hz⟩ : ∃ z, z = A[i] := ⟨_, rfl⟩
              have ez : (A.map encT).getD (i : Int).toNat [] = encT z := by rw [hz]; exact getD_enc g
              have hin := rm_in p c d A B l1 l2 t i z g hz ((z.1 : Int) == (t : Int)) (by
                by_cases h : (z.1 : Int) = t
                · left; simp [h]
                · right; exact hmore z (by rw [hz]; exact List.getElem_mem _) h)
              repeat ((conv => whnf); first | refine Br.t ?_ | refine Br.f ?_ | refine ⟨rfl, ?_⟩)
              conv => whnf
              rw [ez]
              refine ⟨⟨by omega, by simp; omega, rfl⟩, ?_⟩
              repeat ((conv => whnf); first | refine Br.t ?_ | refine Br.f ?_ | refine ⟨rfl, ?_⟩)
              conv => whnf
              refine W.le (Le.slots (sl' := rmS t A B i [(18, .i (.bool ((z.1 : Int) == (t : Int)))), (19, .i (.int .i64 (0 : Nat)))]) (by simp [leS, mkS, rmS])) (W.mono hin ?_)
              rintro e s' ⟨rfl, rfl⟩
              repeat ((conv => whnf); first | refine Br.t ?_ | refine Br.f ?_ | refine ⟨rfl, ?_⟩)
              conv => whnf
              refine ⟨i + 1, by omega, by omega, Le.slots ?_⟩
              simp [leS, mkS, rmS]
              exact i64_id (by omega) (by omega)
            · repeat ((conv => whnf); first | refine Br.t ?_ | refine Br.f ?_ | refine ⟨rfl, ?_⟩)
              conv => whnf
              refine fin (target := []) rfl (Nat.zero_le _) (by simp) rfl rfl
      · rw [if_neg h0, if_neg h0] at cr
        repeat ((conv => whnf); first | refine Br.t ?_ | refine Br.f ?_ | refine ⟨rfl, ?_⟩)
        conv => whnf
        refine CallW.mono (cr.pure _ rfl rfl) ?_
        rintro r st' ⟨rfl, rfl⟩
        repeat ((conv => whnf); first | refine Br.t ?_ | refine Br.f ?_ | refine ⟨rfl, ?_⟩)
        conv => whnf
        refine fin (target := []) rfl (Nat.zero_le _) (by simp) rfl rfl
end Go.Proofs.Ytiikndppckjmhaa.Am
