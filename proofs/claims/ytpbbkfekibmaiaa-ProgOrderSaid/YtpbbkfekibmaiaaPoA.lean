/- Contracts: in a program that may be calls end. -/
import Derived.Test.YtpbbkfekibmaiaaPsF
import Derived.Test.YtpbbkfekibmaiaaThA
namespace Go.Proofs.Ytpbbkfekibmaiaa.Am
set_option autoImplicit false
set_option linter.unusedVariables false
set_option linter.unusedSimpArgs false
set_option maxRecDepth 10000
set_option pp.maxSteps 20000
set_option pp.proofs false
def pA : Pg := ⟨0, 0, 0, [[(9, 0, 0, 0)]]⟩
def pB : Pg := ⟨0, 0, 0, [[(7, 0, 0, 0)]]⟩
theorem chk_pA : chk pA = (0, 0, 0) := by decide
theorem chk_pB : chk pB = (0, 0, 8) := by decide
theorem awake9 : CallW Try.prog G0 9 [] [] (fun r st' => r = .i (.bool true) ∧ st' = []) := by
  refine call_of_bodyF 0 (Nat.le_refl _) Try.func9 rfl (fun a w => Try.call9 a w) (wpx_ok (own := own0) _ _ _ ?_)
  have cA := check31 pA ⟨by decide, by decide⟩
  have cB := check31 pB ⟨by decide, by decide⟩
  rw [chk_pA] at cA
  rw [chk_pB] at cB
  repeat ((conv => whnf); first | refine Br.t ?_ | refine Br.f ?_ | refine ⟨rfl, ?_⟩)
  conv => whnf
  refine CallW.mono (cA.pure _ rfl rfl) ?_
  rintro r st' ⟨rfl, rfl⟩
  repeat ((conv => whnf); first | refine Br.t ?_ | refine Br.f ?_ | refine ⟨rfl, ?_⟩)
  conv => whnf
  refine CallW.mono (cB.pure _ rfl rfl) ?_
  rintro r st' ⟨rfl, rfl⟩
  repeat ((conv => whnf); first | refine Br.t ?_ | refine Br.f ?_ | refine ⟨rfl, ?_⟩)
  conv => whnf
  refine fin (target := []) rfl (Nat.zero_le _) (by simp) rfl rfl
def outC (out : List Bool) : List V := [.i (.bool (sn out 0)), .i (.bool (sn out 1)), .i (.bool (sn out 2)), .i (.bool (sn out 3)), .i (.bool (sn out 4)), .i (.bool (sn out 5)), .i (.bool (sn out 6)), .i (.bool (sn out 7)),
  .i (.bool (sn out 8)), .i (.bool (sn out 9)), .i (.bool (sn out 10)), .i (.bool (sn out 11)), .i (.bool (sn out 12)), .i (.bool (sn out 13)), .i (.bool (sn out 14)), .i (.bool (sn out 15))]
def outB (out : List Bool) : Ob := .row 0 16 false [outC out]
theorem lt16 {f : Nat} (h : f < 16) : f = 0 ∨ f = 1 ∨ f = 2 ∨ f = 3 ∨ f = 4 ∨ f = 5 ∨ f = 6 ∨ f = 7 ∨ f = 8 ∨ f = 9 ∨ f = 10 ∨ f = 11 ∨ f = 12 ∨ f = 13 ∨ f = 14 ∨ f = 15 := by omega
theorem out_load (out : List Bool) {f : Nat} (h : f < 16) : (outC out).getD f .undef = .i (.bool (sn out f)) := by
  rcases lt16 h with rfl | rfl | rfl | rfl | rfl | rfl | rfl | rfl | rfl | rfl | rfl | rfl | rfl | rfl | rfl | rfl <;> rfl
theorem out_store {out : List Bool} (hl : out.length = 16) {f : Nat} (h : f < 16) : putCells (outC out) f [.i (.bool true)] = outC (out.set f true) := by
  have hs : ∀ j, sn (out.set f true) j = (decide (f = j) || sn out j) := fun j => sn_set _ _ _ (by omega)
  simp only [outC, hs]
  clear hs hl
  rcases lt16 h with rfl | rfl | rfl | rfl | rfl | rfl | rfl | rfl | rfl | rfl | rfl | rfl | rfl | rfl | rfl | rfl <;> rfl
theorem order4 (p : Pg) (hp : okPg p) : CallW Try.prog G0 4 [pgV p] [] (fun r st' => r = .i (.bool true) ∧ st' = []) := by
  refine call_of_bodyF 0 (Nat.le_refl _) Try.func4 rfl (fun a w => Try.call4 a w) (wpx_ok (own := own0) _ _ _ ?_)
  repeat ((conv => whnf); first | refine Br.t ?_ | refine Br.f ?_ | refine ⟨rfl, ?_⟩)
  conv => whnf
  refine CallW.mono (awake9.pure _ rfl rfl) ?_
  rintro r st' ⟨rfl, rfl⟩
  repeat ((conv => whnf); first | refine Br.t ?_ | refine Br.f ?_ | refine ⟨rfl, ?_⟩)
  conv => whnf
  refine CallW.mono ((small16 p hp).pure _ rfl rfl) ?_
  rintro r st' ⟨rfl, rfl⟩
  repeat ((conv => whnf); first | refine Br.t ?_ | refine Br.f ?_ | refine ⟨rfl, ?_⟩)
  conv => whnf
  refine Br.mk (fun z => ?_) (fun z => ?_)
  · repeat ((conv => whnf); first | refine Br.t ?_ | refine Br.f ?_ | refine ⟨rfl, ?_⟩)
    conv => whnf
    refine CallW.mono (awake9.pure _ rfl rfl) ?_
    rintro r st' ⟨rfl, rfl⟩
    repeat ((conv => whnf); first | refine Br.t ?_ | refine Br.f ?_ | refine ⟨rfl, ?_⟩)
    conv => whnf
    refine fin (target := []) rfl (Nat.zero_le _) (by simp) rfl rfl
  · repeat ((conv => whnf); first | refine Br.t ?_ | refine Br.f ?_ | refine ⟨rfl, ?_⟩)
    conv => whnf
    refine CallW.mono ((check31 p hp).pure _ rfl rfl) ?_
    rintro r st' ⟨rfl, rfl⟩
    repeat ((conv => whnf); first | refine Br.t ?_ | refine Br.f ?_ | refine ⟨rfl, ?_⟩)
    conv => whnf
    refine Br.mk (fun h => ?_) (fun h => ?_)
    · repeat ((conv => whnf); first | refine Br.t ?_ | refine Br.f ?_ | refine ⟨rfl, ?_⟩)
      conv => whnf
      refine fin (target := []) rfl (Nat.zero_le _) (by simp) rfl rfl
    · have h : (chk p).2.2 = 0 := by simpa using h
      have ok := chk_zero h
      have hc := ok.calls
      have hall := all_out hc ok.n.2 ok.r
      have h16 := ok.n.2
      have hcl : ∀ (out : List Bool) (m : Nat), ∀ o ∈ [pgB p, outB out], o.cl m := by
        intro out m o ho
        simp only [List.mem_cons, List.not_mem_nil, or_false] at ho
        rcases ho with rfl | rfl
        · exact pgB_cl p m
        · intro cs hcs
          simp only [List.mem_singleton] at hcs
          subst hcs
          rfl
      have h0 : OutOk p.fs (List.replicate 16 false, 0) := ⟨by simp, by simp, fun j _ => by
        unfold sn
        rw [List.getD_eq_getElem?_getD, List.getElem?_replicate]
        split <;> rfl⟩
      repeat ((conv => whnf); first | refine Br.t ?_ | refine Br.f ?_ | refine ⟨rfl, ?_⟩)
      conv => whnf
      refine loop_ok (α := Nat × List Bool × Nat) (fun x => ⟨mkS 87 [(1, .ptr 0 0 0 0), (2, .i (.bool false)), (6, .ptr 1 0 0 0), (7, .i (.int .i64 x.2.2)), (8, .i (.int .i64 x.1))], [pgB p, outB x.2.1]⟩)
        (fun x => x.1 ≤ p.fs.length ∧ OutOk p.fs x.2 ∧ passes p.fs (p.fs.length - x.1) x.2 = passes p.fs p.fs.length (List.replicate 16 false, 0)) (fun x => p.fs.length - x.1) (0, List.replicate 16 false, 0) ⟨Nat.zero_le _, h0, rfl⟩
        (Le.slots (by simp [leS, mkS])) (fun x hx => wpx_ok (own := own0) _ _ _ ?_)
      obtain ⟨j, out, n⟩ := x
      obtain ⟨h1, h2, h3⟩ := hx
      simp only at h1 h2 h3
      dsimp only
      repeat ((conv => whnf); first | refine Br.t ?_ | refine Br.f ?_ | refine ⟨rfl, ?_⟩)
      conv => whnf
      refine Br.mk (fun g => ?_) (fun g => ?_)
      · have g : j < p.fs.length := by simpa using g
        have ej : p.fs.length - j = (p.fs.length - (j + 1)) + 1 := by omega
        rw [ej, passes] at h3
        obtain ⟨T, hT⟩ : ∃ T, T = pass 0 p.fs (out, n) := ⟨_, rfl⟩
        rw [← hT] at h3
        have hTok : OutOk p.fs T := hT ▸ (pass_ok h16 p.fs 0 (out, n) (by simp) h2).1
        repeat ((conv => whnf); first | refine Br.t ?_ | refine Br.f ?_ | refine ⟨rfl, ?_⟩)
        conv => whnf
        refine loop_ok (α := Nat × List Bool × Nat) (fun x => ⟨mkS 87 [(1, .ptr 0 0 0 0), (2, .i (.bool false)), (6, .ptr 1 0 0 0), (7, .i (.int .i64 x.2.2)), (8, .i (.int .i64 j)), (9, .i (.int .i64 x.1))], [pgB p, outB x.2.1]⟩)
          (fun x => x.1 ≤ p.fs.length ∧ OutOk p.fs x.2 ∧ pass x.1 (p.fs.drop x.1) x.2 = T) (fun x => p.fs.length - x.1) (0, out, n) ⟨Nat.zero_le _, h2, hT.symm⟩
          (Le.slots (by simp [leS, mkS])) (fun x hx => wpx_ok (own := own0) _ _ _ ?_)
        obtain ⟨f, ot, m⟩ := x
        obtain ⟨k1, k2, k3⟩ := hx
        simp only at k1 k2 k3
        dsimp only
        repeat ((conv => whnf); first | refine Br.t ?_ | refine Br.f ?_ | refine ⟨rfl, ?_⟩)
        conv => whnf
        refine Br.mk (fun g1 => ?_) (fun g1 => ?_)
        · have g1 : f < p.fs.length := by simpa using g1
          obtain ⟨L, hL⟩ : ∃ L, L = p.fs[f] := ⟨_, rfl⟩
          have hLm : L ∈ p.fs := hL ▸ List.getElem_mem g1
          have eL : (p.fs.map encF).getD (f : Int).toNat [] = encF L := by rw [hL]; exact getD_enc g1
          have edr : p.fs.drop f = L :: p.fs.drop (f + 1) := by rw [hL]; exact List.drop_eq_getElem_cons g1
          have hLl := (ok.f L hLm).2.1
          have hLc := hc L hLm
          have hlen := k2.len
          have hcnt := k2.cnt
          have hm : m ≤ 16 := by
            have := count_le ot _ k2.beyond
            simp only at hcnt
            omega
          rw [edr, pass] at k3
          simp only at k3 hlen
          repeat ((conv => whnf); first | refine Br.t ?_ | refine Br.f ?_ | refine ⟨rfl, ?_⟩)
          conv => whnf
          refine ⟨by omega, ?_⟩
          rw [show 0 + ((f : Nat) : Int).toNat * szA Try.prog 4 = f by rw [Int.toNat_natCast, show szA Try.prog 4 = 1 from rfl]; omega]
          repeat ((conv => whnf); first | refine Br.t ?_ | refine Br.f ?_ | refine ⟨rfl, ?_⟩)
          conv => whnf
          refine ⟨by show Nat.blt (f) 16 = true; simp [Nat.blt_eq]; omega, ?_⟩
          change fW (([outC ot].getD 0 []).getD (f) .undef) _
          rw [List.getD_cons_zero, out_load ot (show f < 16 by omega)]
          repeat ((conv => whnf); first | refine Br.t ?_ | refine Br.f ?_ | refine ⟨rfl, ?_⟩)
          conv => whnf
          refine loop_ok (α := Nat × Bool) (fun x => ⟨mkS 87 [(1, .ptr 0 0 0 0), (2, .i (.bool false)), (6, .ptr 1 0 0 0), (7, .i (.int .i64 m)), (8, .i (.int .i64 j)), (9, .i (.int .i64 f)), (10, .i (.bool x.2)), (11, .i (.int .i64 x.1))], [pgB p, outB ot]⟩)
            (fun x => x.1 ≤ L.length ∧ (x.2 && (L.drop x.1).all fun x => decide (x.1 ≠ 7) || sn ot x.2.1.toNat) = freeB ot f L) (fun x => L.length - x.1) (0, !sn ot f) ⟨Nat.zero_le _, rfl⟩
            (Le.slots (by simp [leS, mkS])) (fun x hx => wpx_ok (own := own0) _ _ _ ?_)
          obtain ⟨i, b⟩ := x
          obtain ⟨q1, q2⟩ := hx
          simp only at q1 q2
          dsimp only
          repeat ((conv => whnf); first | refine Br.t ?_ | refine Br.f ?_ | refine ⟨rfl, ?_⟩)
          conv => whnf
          rw [eL]
          refine ⟨⟨by omega, by simp; omega, rfl⟩, ?_⟩
          repeat ((conv => whnf); first | refine Br.t ?_ | refine Br.f ?_ | refine ⟨rfl, ?_⟩)
          conv => whnf
          refine Br.mk (fun g2 => ?_) (fun g2 => ?_)
          · have g2 : i < L.length := by simpa using g2
            obtain ⟨y, hy⟩ : ∃ y, y = L[i] := ⟨_, rfl⟩
            have hym : y ∈ L := hy ▸ List.getElem_mem g2
            have ey : (L.map encNd).getD (i : Int).toNat [] = encNd y := by rw [hy]; exact getD_enc g2
            have edy : L.drop i = y :: L.drop (i + 1) := by rw [hy]; exact List.drop_eq_getElem_cons g2
            have hyc := hLc y hym
            rw [edy, List.all_cons] at q2
            repeat ((conv => whnf); first | refine Br.t ?_ | refine Br.f ?_ | refine ⟨rfl, ?_⟩)
            conv => whnf
            rw [eL]
            refine ⟨⟨by omega, by simp; omega, rfl⟩, ?_⟩
            repeat ((conv => whnf); first | refine Br.t ?_ | refine Br.f ?_ | refine ⟨rfl, ?_⟩)
            conv => whnf
            rw [ey]
            refine ⟨⟨by omega, by simp; omega, rfl⟩, ?_⟩
            repeat ((conv => whnf); first | refine Br.t ?_ | refine Br.f ?_ | refine ⟨rfl, ?_⟩)
            conv => whnf
            cases b with
            | false =>
              repeat ((conv => whnf); first | refine Br.t ?_ | refine Br.f ?_ | refine ⟨rfl, ?_⟩)
              conv => whnf
              refine ⟨(i + 1, false), ⟨by simp only; omega, by simpa using q2⟩, by simp only; omega, Le.back (fun _ => 0) (by intro id hid; rfl) (by simp) rfl ?_ ?_ ?_⟩
              · exact hcl ot _
              · simp [leS, mkS, V.up]
                exact i64_id (by omega) (by omega)
              · rfl
            | true =>
              repeat ((conv => whnf); first | refine Br.t ?_ | refine Br.f ?_ | refine ⟨rfl, ?_⟩)
              conv => whnf
              refine Br.mk (fun g3 => ?_) (fun g3 => ?_)
              · have g3 : y.1 ≠ 7 := by simpa using g3
                repeat ((conv => whnf); first | refine Br.t ?_ | refine Br.f ?_ | refine ⟨rfl, ?_⟩)
                conv => whnf
                refine ⟨(i + 1, true), ⟨by simp only; omega, by simpa [g3] using q2⟩, by simp only; omega, Le.back (fun _ => 0) (by intro id hid; rfl) (by simp) rfl ?_ ?_ ?_⟩
                · exact hcl ot _
                · simp [leS, mkS, V.up]
                  exact i64_id (by omega) (by omega)
                · rfl
              · have g3 : y.1 = 7 := by simpa using g3
                obtain ⟨a1, a2⟩ := hyc g3
                repeat ((conv => whnf); first | refine Br.t ?_ | refine Br.f ?_ | refine ⟨rfl, ?_⟩)
                conv => whnf
                refine ⟨by omega, ?_⟩
                rw [show 0 + y.2.1.toNat * szA Try.prog 4 = y.2.1.toNat by rw [show szA Try.prog 4 = 1 from rfl]; omega]
                repeat ((conv => whnf); first | refine Br.t ?_ | refine Br.f ?_ | refine ⟨rfl, ?_⟩)
                conv => whnf
                refine ⟨by show Nat.blt (y.2.1.toNat) 16 = true; simp [Nat.blt_eq]; omega, ?_⟩
                change fW (([outC ot].getD 0 []).getD (y.2.1.toNat) .undef) _
                rw [List.getD_cons_zero, out_load ot (show y.2.1.toNat < 16 by omega)]
                repeat ((conv => whnf); first | refine Br.t ?_ | refine Br.f ?_ | refine ⟨rfl, ?_⟩)
                conv => whnf
                refine ⟨(i + 1, sn ot y.2.1.toNat), ⟨by simp only; omega, by simpa [g3] using q2⟩, by simp only; omega, Le.back (fun _ => 0) (by intro id hid; rfl) (by simp) rfl ?_ ?_ ?_⟩
                · exact hcl ot _
                · simp [leS, mkS, V.up]
                  exact i64_id (by omega) (by omega)
                · rfl
          · have g2 : i = L.length := by simp at g2; omega
            subst g2
            rw [List.drop_length, List.all_nil, Bool.and_true] at q2
            subst q2
            repeat ((conv => whnf); first | refine Br.t ?_ | refine Br.f ?_ | refine ⟨rfl, ?_⟩)
            conv => whnf
            refine Br.mk (fun g3 => ?_) (fun g3 => ?_)
            · rw [if_pos g3] at k3
              have hstep := step_ok h16 k2 g1 L
              rw [if_pos g3] at hstep
              repeat ((conv => whnf); first | refine Br.t ?_ | refine Br.f ?_ | refine ⟨rfl, ?_⟩)
              conv => whnf
              refine ⟨by omega, ?_⟩
              rw [show 0 + ((f : Nat) : Int).toNat * szA Try.prog 4 = f by rw [Int.toNat_natCast, show szA Try.prog 4 = 1 from rfl]; omega]
              repeat ((conv => whnf); first | refine Br.t ?_ | refine Br.f ?_ | refine ⟨rfl, ?_⟩)
              conv => whnf
              refine ⟨by show (true && Nat.beq 1 1 && true && Nat.ble (f + 1) 16) = true; simp [Nat.ble_eq]; omega, ?_⟩
              repeat ((conv => whnf); first | refine Br.t ?_ | refine Br.f ?_ | refine ⟨rfl, ?_⟩)
              conv => whnf
              change fVs' (putCells (outC ot) f [.i (.bool true)]) _
              rw [out_store hlen (show f < 16 by omega)]
              repeat ((conv => whnf); first | refine Br.t ?_ | refine Br.f ?_ | refine ⟨rfl, ?_⟩)
              conv => whnf
              refine ⟨(f + 1, ot.set f true, m + 1), ⟨by simp only; omega, hstep, k3⟩, by simp only; omega, Le.slots ?_⟩
              simp [leS, mkS]
              exact ⟨i64_id (by omega) (by omega), i64_id (by omega) (by omega)⟩
            · rw [if_neg (by simp [g3])] at k3
              repeat ((conv => whnf); first | refine Br.t ?_ | refine Br.f ?_ | refine ⟨rfl, ?_⟩)
              conv => whnf
              refine ⟨(f + 1, ot, m), ⟨by simp only; omega, k2, k3⟩, by simp only; omega, Le.slots ?_⟩
              simp [leS, mkS]
              exact i64_id (by omega) (by omega)
        · have g1 : f = p.fs.length := by simp at g1; omega
          subst g1
          rw [List.drop_length, pass] at k3
          subst k3
          repeat ((conv => whnf); first | refine Br.t ?_ | refine Br.f ?_ | refine ⟨rfl, ?_⟩)
          conv => whnf
          refine ⟨(j + 1, ot, m), ⟨by simp only; omega, hTok, h3⟩, by simp only; omega, Le.slots ?_⟩
          simp [leS, mkS]
          exact i64_id (by omega) (by omega)
      · have g : j = p.fs.length := by simp at g; omega
        subst g
        rw [Nat.sub_self, passes] at h3
        rw [← h3] at hall
        simp only at hall
        repeat ((conv => whnf); first | refine Br.t ?_ | refine Br.f ?_ | refine ⟨rfl, ?_⟩)
        conv => whnf
        refine fin (target := []) rfl (Nat.zero_le _) (by simp) ?_ rfl
        rw [hall, List.length_map]
        simp
end Go.Proofs.Ytpbbkfekibmaiaa.Am
