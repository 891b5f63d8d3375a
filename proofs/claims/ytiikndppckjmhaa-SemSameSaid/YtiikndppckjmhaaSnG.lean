/- Contract: the document's sameness of two configs. -/
import Derived.Test.YtiikndppckjmhaaSnF
namespace Go.Proofs.Ytiikndppckjmhaa.Am
set_option autoImplicit false
set_option linter.unusedVariables false
set_option linter.unusedSimpArgs false
set_option maxRecDepth 10000
set_option pp.maxSteps 3000
set_option pp.proofs false
set_option maxHeartbeats 1000000 in
theorem rsame_k (c d : Cfg) (t : Nat) (th tu : Th) (hth : c.ths[t]? = some th) (htu : d.ths[t]? = some tu) (hn : c.ths.length ≤ 8) (hdn : d.ths.length ≤ 8) (hh : th.stk.length ≤ 16) (hlm : th.stk.length = tu.stk.length) (Q : Exit → S → Prop)
    (hno : th.stk ≠ tu.stk → Q .ret ⟨mkS 81 [(4, .i (.bool false))], [rcB c, rcB d]⟩) (hyes : th.stk = tu.stk → Q (.exit 2) ⟨rsS t [], [rcB c, rcB d]⟩) :
    W Try.prog G0 0 (.loop (lp Try.f30 1)) Q ⟨rsS t [(6, .i (.int .i64 0))], [rcB c, rcB d]⟩ := by
  have htl := lt_some hth
  have htl2 := lt_some htu
  refine W.weak (loop_ok (α := Nat) (fun j => ⟨rsS t [(6, .i (.int .i64 j))], [rcB c, rcB d]⟩)
    (fun j => j ≤ th.stk.length ∧ (th.stk.drop j = tu.stk.drop j ↔ th.stk = tu.stk)) (fun j => th.stk.length - j) 0 ⟨Nat.zero_le _, Iff.rfl⟩ (Le.refl _ _) (fun j hj => wpx_ok (own := own0) _ _ _ ?_))
  obtain ⟨h1, h2⟩ := hj
  repeat ((conv => whnf); first | refine Br.t ?_ | refine Br.f ?_ | refine ⟨rfl, ?_⟩)
  conv => whnf
  rw [stkI_get hth]
  refine ⟨⟨by omega, by simp; omega, rfl⟩, ?_⟩
  repeat ((conv => whnf); first | refine Br.t ?_ | refine Br.f ?_ | refine ⟨rfl, ?_⟩)
  conv => whnf
  refine Br.mk (fun g => ?_) (fun g => ?_)
  · have g : j < th.stk.length := by simpa using g
    have g2 : j < tu.stk.length := by omega
    obtain ⟨x, hx⟩ : ∃ x, x = th.stk[j] := ⟨_, rfl⟩
    obtain ⟨y, hy⟩ : ∃ y, y = tu.stk[j] := ⟨_, rfl⟩
    have ex : (th.stk.map encFr).getD (j : Int).toNat [] = encFr x := by rw [hx]; exact getD_enc g
    have ey : (tu.stk.map encFr).getD (j : Int).toNat [] = encFr y := by rw [hy]; exact getD_enc g2
    have hfe := fr_eq x y
    rw [List.drop_eq_getElem_cons g, List.drop_eq_getElem_cons g2, ← hx, ← hy] at h2
    repeat ((conv => whnf); first | refine Br.t ?_ | refine Br.f ?_ | refine ⟨rfl, ?_⟩)
    conv => whnf
    refine draw_ok (own := own0) [] [] [] rfl (by kernel_rfl) (Nat.zero_le _) ?_
    repeat ((conv => whnf); first | refine Br.t ?_ | refine Br.f ?_ | refine ⟨rfl, ?_⟩)
    conv => whnf
    rw [stkI_get hth]
    refine ⟨⟨by omega, by simp; omega, rfl⟩, ?_⟩
    repeat ((conv => whnf); first | refine Br.t ?_ | refine Br.f ?_ | refine ⟨rfl, ?_⟩)
    conv => whnf
    rw [ex]
    refine ⟨⟨by omega, by simp; omega, rfl⟩, ?_⟩
    repeat ((conv => whnf); first | refine Br.t ?_ | refine Br.f ?_ | refine ⟨rfl, ?_⟩)
    conv => whnf
    rw [stkI_get htu]
    refine ⟨⟨by omega, by simp; omega, rfl⟩, ?_⟩
    repeat ((conv => whnf); first | refine Br.t ?_ | refine Br.f ?_ | refine ⟨rfl, ?_⟩)
    conv => whnf
    rw [ey]
    refine ⟨⟨by omega, by simp; omega, rfl⟩, ?_⟩
    repeat ((conv => whnf); first | refine Br.t ?_ | refine Br.f ?_ | refine ⟨rfl, ?_⟩)
    conv => whnf
    refine ⟨by kernel_rfl, ?_⟩
    repeat ((conv => whnf); first | refine Br.t ?_ | refine Br.f ?_ | refine ⟨rfl, ?_⟩)
    conv => whnf
    refine ⟨by repeat ((conv => whnf); first | exact trivial | refine ⟨rfl, ?_⟩), trivial, ?_⟩
    conv => whnf
    rw [hfe]
    refine Br.mk (fun h => ?_) (fun h => ?_)
    · have hxy : x ≠ y := by simpa using h
      repeat ((conv => whnf); first | refine Br.t ?_ | refine Br.f ?_ | refine ⟨rfl, ?_⟩)
      conv => whnf
      exact ⟨_, Le.slots (by simp [leS, mkS, rsS]), hno (fun e => hxy (List.cons.inj (h2.2 e)).1)⟩
    · have hxy : x = y := by simpa using h
      repeat ((conv => whnf); first | refine Br.t ?_ | refine Br.f ?_ | refine ⟨rfl, ?_⟩)
      conv => whnf
      refine ⟨j + 1, ⟨by omega, ?_⟩, by omega, Le.slots ?_⟩
      · rw [← h2, hxy]; simp
      · simp [leS, mkS, rsS]
        exact i64_id (by omega) (by omega)
  · have g : j = th.stk.length := by simp at g; omega
    subst g
    rw [List.drop_length, hlm, List.drop_length] at h2
    repeat ((conv => whnf); first | refine Br.t ?_ | refine Br.f ?_ | refine ⟨rfl, ?_⟩)
    conv => whnf
    exact ⟨_, Le.slots (by simp [leS, mkS, rsS]), hyes (h2.1 rfl)⟩
set_option maxHeartbeats 1000000 in
theorem rsame_dec (p : Pg) (hp : PgOk p) (c d : Cfg) (hc : OkC p c) (hd : OkC p d) : CallW Try.prog G0 30 [rcV c, rcV d] [] (fun r st' => r = .i (.bool (sameC c d)) ∧ st' = []) := by
  refine call_of_bodyF 0 (Nat.le_refl _) Try.func30 rfl (fun a w => Try.call30 a w) (wpx_ok (own := own0) _ _ _ ?_)
  have hn := hc.n.2
  have hdn := hd.n.2
  have hpn := hp.n.2
  have he := ow_eq c.own d.own hc.own hd.own
  obtain ⟨R, hR⟩ : ∃ R, R = sameC c d := ⟨_, rfl⟩
  rw [← hR]
  unfold sameC at hR
  repeat ((conv => whnf); first | refine Br.t ?_ | refine Br.f ?_ | refine ⟨rfl, ?_⟩)
  conv => whnf
  refine Br.mk (fun h => ?_) (fun h => ?_)
  · have h : c.ths.length ≠ d.ths.length := by simp at h; omega
    have hRf : R = false := by
      rw [hR, Bool.eq_false_iff]
      intro e
      rw [Bool.and_eq_true] at e
      exact h (sameTs_len e.2)
    rw [hRf]
    repeat ((conv => whnf); first | refine Br.t ?_ | refine Br.f ?_ | refine ⟨rfl, ?_⟩)
    conv => whnf
    refine fin (target := []) rfl (Nat.zero_le _) (by simp) rfl rfl
  · have hlm : c.ths.length = d.ths.length := by simp at h; omega
    repeat ((conv => whnf); first | refine Br.t ?_ | refine Br.f ?_ | refine ⟨rfl, ?_⟩)
    conv => whnf
    rw [he]
    obtain ⟨q, hq⟩ : ∃ q, q = decide (c.own = d.own) := ⟨_, rfl⟩
    rw [← hq] at hR ⊢
    cases q with
    | false =>
      rw [Bool.false_and] at hR
      subst hR
      repeat ((conv => whnf); first | refine Br.t ?_ | refine Br.f ?_ | refine ⟨rfl, ?_⟩)
      conv => whnf
      refine fin (target := []) rfl (Nat.zero_le _) (by simp) rfl rfl
    | true =>
      rw [Bool.true_and] at hR
      repeat ((conv => whnf); first | refine Br.t ?_ | refine Br.f ?_ | refine ⟨rfl, ?_⟩)
      conv => whnf
      refine loop_ok (α := Nat) (fun t => ⟨rsS t [], [rcB c, rcB d]⟩)
        (fun t => t ≤ c.ths.length ∧ sameTs (c.ths.drop t) (d.ths.drop t) = R) (fun t => c.ths.length - t) 0 ⟨Nat.zero_le _, hR.symm⟩ (Le.slots (by simp [leS, mkS, rsS])) (fun t ht => wpx_ok (own := own0) _ _ _ ?_)
      obtain ⟨h1, h2⟩ := ht
      repeat ((conv => whnf); first | refine Br.t ?_ | refine Br.f ?_ | refine ⟨rfl, ?_⟩)
      conv => whnf
      refine Br.mk (fun g => ?_) (fun g => ?_)
      · have g : t < c.ths.length := by simpa using g
        have g2 : t < d.ths.length := by omega
        have hth : c.ths[t]? = some c.ths[t] := List.getElem?_eq_getElem g
        have htu : d.ths[t]? = some d.ths[t] := List.getElem?_eq_getElem g2
        rw [List.drop_eq_getElem_cons g, List.drop_eq_getElem_cons g2, sameTs] at h2
        have okt := hc.th _ (List.mem_of_getElem? hth)
        have oku := hd.th _ (List.mem_of_getElem? htu)
        obtain ⟨th, ett⟩ : ∃ t0, t0 = c.ths[t] := ⟨_, rfl⟩
        obtain ⟨tu, euu⟩ : ∃ u, u = d.ths[t] := ⟨_, rfl⟩
        rw [← ett] at hth okt h2
        rw [← euu] at htu oku h2
        have hht := okt.h
        have hs := sl_eq th.sl tu.sl okt.sl oku.sl
        unfold sameT at h2
        repeat ((conv => whnf); first | refine Br.t ?_ | refine Br.f ?_ | refine ⟨rfl, ?_⟩)
        conv => whnf
        refine draw_ok (own := own0) [] [] [] rfl (by kernel_rfl) (Nat.zero_le _) ?_
        repeat ((conv => whnf); first | refine Br.t ?_ | refine Br.f ?_ | refine ⟨rfl, ?_⟩)
        conv => whnf
        rw [slI_get hth]
        refine ⟨⟨by omega, by simp; omega, rfl⟩, ?_⟩
        repeat ((conv => whnf); first | refine Br.t ?_ | refine Br.f ?_ | refine ⟨rfl, ?_⟩)
        conv => whnf
        rw [slI_get htu]
        refine ⟨⟨by omega, by simp; omega, rfl⟩, ?_⟩
        repeat ((conv => whnf); first | refine Br.t ?_ | refine Br.f ?_ | refine ⟨rfl, ?_⟩)
        conv => whnf
        rw [hs]
        obtain ⟨e, hse⟩ : ∃ e, e = decide (th.sl = tu.sl) := ⟨_, rfl⟩
        rw [← hse] at h2 ⊢
        cases e with
        | false =>
          rw [Bool.false_and, Bool.false_and] at h2
          subst h2
          repeat ((conv => whnf); first | refine Br.t ?_ | refine Br.f ?_ | refine ⟨rfl, ?_⟩)
          conv => whnf
          refine ⟨by repeat ((conv => whnf); first | exact trivial | refine ⟨rfl, ?_⟩), trivial, ?_⟩
          conv => whnf
          repeat ((conv => whnf); first | refine Br.t ?_ | refine Br.f ?_ | refine ⟨rfl, ?_⟩)
          conv => whnf
          refine fin (target := []) rfl (Nat.zero_le _) (by simp) rfl rfl
        | true =>
          rw [Bool.true_and] at h2
          repeat ((conv => whnf); first | refine Br.t ?_ | refine Br.f ?_ | refine ⟨rfl, ?_⟩)
          conv => whnf
          rw [stkI_get hth]
          refine ⟨⟨by omega, by simp; omega, rfl⟩, ?_⟩
          repeat ((conv => whnf); first | refine Br.t ?_ | refine Br.f ?_ | refine ⟨rfl, ?_⟩)
          conv => whnf
          rw [stkI_get htu]
          refine ⟨⟨by omega, by simp; omega, rfl⟩, ?_⟩
          repeat ((conv => whnf); first | refine Br.t ?_ | refine Br.f ?_ | refine ⟨rfl, ?_⟩)
          conv => whnf
          refine ⟨by repeat ((conv => whnf); first | exact trivial | refine ⟨rfl, ?_⟩), trivial, ?_⟩
          conv => whnf
          refine Br.mk (fun h => ?_) (fun h => ?_)
          · have h : th.stk.length ≠ tu.stk.length := by simp at h; omega
            rw [decide_eq_false (fun e => h (by rw [e])), Bool.false_and] at h2
            subst h2
            repeat ((conv => whnf); first | refine Br.t ?_ | refine Br.f ?_ | refine ⟨rfl, ?_⟩)
            conv => whnf
            refine fin (target := []) rfl (Nat.zero_le _) (by simp) rfl rfl
          · have h : th.stk.length = tu.stk.length := by simp at h; omega
            repeat ((conv => whnf); first | refine Br.t ?_ | refine Br.f ?_ | refine ⟨rfl, ?_⟩)
            conv => whnf
            refine W.le (Le.slots (sl' := rsS t [(6, V.i (I.int .i64 0))]) (by simp [leS, mkS, rsS])) (rsame_k c d t th tu hth htu hn hdn (by omega) h _ (fun k => ?_) (fun k => ?_))
            · rw [decide_eq_false k, Bool.false_and] at h2
              subst h2
              repeat ((conv => whnf); first | refine Br.t ?_ | refine Br.f ?_ | refine ⟨rfl, ?_⟩)
              conv => whnf
              refine fin (target := []) rfl (Nat.zero_le _) (by simp) rfl rfl
            · rw [decide_eq_true k, Bool.true_and] at h2
              repeat ((conv => whnf); first | refine Br.t ?_ | refine Br.f ?_ | refine ⟨rfl, ?_⟩)
              conv => whnf
              refine ⟨t + 1, ⟨by omega, h2⟩, by omega, Le.slots ?_⟩
              simp [leS, mkS, rsS]
              exact i64_id (by omega) (by omega)
      · have g : t = c.ths.length := by simp at g; omega
        have hRt : R = true := by rw [← h2, g, List.drop_length, hlm, List.drop_length]; rfl
        rw [hRt]
        repeat ((conv => whnf); first | refine Br.t ?_ | refine Br.f ?_ | refine ⟨rfl, ?_⟩)
        conv => whnf
        refine fin (target := []) rfl (Nat.zero_le _) (by simp) rfl rfl
end Go.Proofs.Ytiikndppckjmhaa.Am
