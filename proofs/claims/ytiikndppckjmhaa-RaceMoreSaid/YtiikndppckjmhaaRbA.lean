/- Contract: do two threads race for a global? -/
import Derived.Test.YtiikndppckjmhaaRbP
namespace Go.Proofs.Ytiikndppckjmhaa.Am
set_option autoImplicit false
set_option linter.unusedVariables false
set_option linter.unusedSimpArgs false
set_option maxRecDepth 10000
set_option pp.maxSteps 3000
set_option pp.proofs false
def ptV (o : Option Tc) : V := match o with | some x => .iptr (encT x) 0 | none => .i .nilp
def prS (L : List Tc) (a b g : Int) (i : Nat) (o1 o2 : V) : List V := mkS 67 [(2, .i (.int .i64 a)), (3, .i (.int .i64 b)), (4, .i (.int .i64 g)), (5, .ptr 0 0 0 0), (6, .ptr 1 0 0 0), (11, o1), (12, o2), (13, .i (.sl (L.map encT))), (19, .i (.int .i64 L.length)), (20, .i (.int .i64 i))]
set_option maxHeartbeats 2000000 in
theorem pair_loop (p : Pg) (c : Cfg) (L : List Tc) (hlen : L.length ≤ 8) (a b g : Int) : W Try.prog G0 0 (.loop (lp Try.f50 0)) (fun e s' => e = .exit 0 ∧ s' = ⟨prS L a b g L.length (ptV (lastW a L)) (ptV (lastW b L)), [pgB p, cfgB c]⟩) ⟨prS L a b g 0 (.i .nilp) (.i .nilp), [pgB p, cfgB c]⟩ := by
  refine W.weak (loop_ok (α := Nat) (fun i => ⟨prS L a b g i (ptV (lastW a (L.take i))) (ptV (lastW b (L.take i))), [pgB p, cfgB c]⟩)
    (fun i => i ≤ L.length) (fun i => L.length - i) 0 (Nat.zero_le _) (Le.refl _ _) (fun i hi => wpx_ok (own := own0) _ _ _ ?_))
  have hfull : i = L.length → lastW a (L.take i) = lastW a L ∧ lastW b (L.take i) = lastW b L := fun e => by rw [e, List.take_length]; exact ⟨rfl, rfl⟩
  have hnext : ∀ g : i < L.length, lastW a (L.take (i + 1)) = (if (L[i].1 : Int) = a then some L[i] else lastW a (L.take i)) ∧ lastW b (L.take (i + 1)) = (if (L[i].1 : Int) = b then some L[i] else lastW b (L.take i)) := fun g => by
    have e : L.take (i + 1) = L.take i ++ [L[i]] := by rw [List.take_add_one, List.getElem?_eq_getElem g]; rfl
    rw [e, lastW_snoc, lastW_snoc]
    exact ⟨rfl, rfl⟩
  obtain ⟨o1, ho1⟩ : ∃ o, o = lastW a (L.take i) := ⟨_, rfl⟩
  obtain ⟨o2, ho2⟩ : ∃ o, o = lastW b (L.take i) := ⟨_, rfl⟩
  rw [← ho1, ← ho2] at hnext hfull ⊢
  obtain ⟨v1, hv1⟩ : ∃ v, v = ptV o1 := ⟨_, rfl⟩
  obtain ⟨v2, hv2⟩ : ∃ v, v = ptV o2 := ⟨_, rfl⟩
  rw [← hv1, ← hv2]
  repeat ((conv => whnf); first | refine Br.t ?_ | refine Br.f ?_ | refine ⟨rfl, ?_⟩)
  conv => whnf
  refine Br.mk (fun gg => ?_) (fun gg => ?_)
  · have gg : i < L.length := by simpa using gg
    obtain ⟨e1, e2⟩ := hnext gg
    obtain ⟨x, hx⟩ : ∃ x, x = L[i] := ⟨_, rfl⟩
    have ex : (L.map encT).getD (i : Int).toNat [] = encT x := by rw [hx]; exact getD_enc gg
    rw [← hx] at e1 e2
    repeat ((conv => whnf); first | refine Br.t ?_ | refine Br.f ?_ | refine ⟨rfl, ?_⟩)
    conv => whnf
    rw [ex]
    refine ⟨⟨by omega, by simp; omega, rfl⟩, ?_⟩
    repeat ((conv => whnf); first | refine Br.t ?_ | refine Br.f ?_ | refine ⟨rfl, ?_⟩)
    conv => whnf
    refine Br.mk (fun h1 => ?_) (fun h1 => ?_)
    · have h1 : (x.1 : Int) = a := by simpa using h1
      rw [if_pos h1] at e1
      repeat ((conv => whnf); first | refine Br.t ?_ | refine Br.f ?_ | refine ⟨rfl, ?_⟩)
      conv => whnf
      rw [ex]
      refine ⟨⟨by omega, by simp; omega, rfl⟩, ?_⟩
      repeat ((conv => whnf); first | refine Br.t ?_ | refine Br.f ?_ | refine ⟨rfl, ?_⟩)
      conv => whnf
      rw [ex]
      refine ⟨⟨by omega, by simp; omega, rfl⟩, ?_⟩
      repeat ((conv => whnf); first | refine Br.t ?_ | refine Br.f ?_ | refine ⟨rfl, ?_⟩)
      conv => whnf
      refine Br.mk (fun h2 => ?_) (fun h2 => ?_)
      · have h2 : (x.1 : Int) = b := by simpa using h2
        rw [if_pos h2] at e2
        repeat ((conv => whnf); first | refine Br.t ?_ | refine Br.f ?_ | refine ⟨rfl, ?_⟩)
        conv => whnf
        rw [ex]
        refine ⟨⟨by omega, by simp; omega, rfl⟩, ?_⟩
        repeat ((conv => whnf); first | refine Br.t ?_ | refine Br.f ?_ | refine ⟨rfl, ?_⟩)
        conv => whnf
        refine ⟨i + 1, by omega, by omega, Le.slots ?_⟩
        rw [e1, e2]
        try rw [← hv1]
        simp [leS, mkS, prS, ptV]
        exact i64_id (by omega) (by omega)
      · have h2 : ¬ (x.1 : Int) = b := by simpa using h2
        rw [if_neg h2] at e2
        repeat ((conv => whnf); first | refine Br.t ?_ | refine Br.f ?_ | refine ⟨rfl, ?_⟩)
        conv => whnf
        refine ⟨i + 1, by omega, by omega, Le.slots ?_⟩
        rw [e1, e2, ← hv2]
        try rw [← hv1]
        simp [leS, mkS, prS, ptV]
        exact i64_id (by omega) (by omega)
    · have h1 : ¬ (x.1 : Int) = a := by simpa using h1
      rw [if_neg h1] at e1
      repeat ((conv => whnf); first | refine Br.t ?_ | refine Br.f ?_ | refine ⟨rfl, ?_⟩)
      conv => whnf
      rw [ex]
      refine ⟨⟨by omega, by simp; omega, rfl⟩, ?_⟩
      repeat ((conv => whnf); first | refine Br.t ?_ | refine Br.f ?_ | refine ⟨rfl, ?_⟩)
      conv => whnf
      refine Br.mk (fun h2 => ?_) (fun h2 => ?_)
      · have h2 : (x.1 : Int) = b := by simpa using h2
        rw [if_pos h2] at e2
        repeat ((conv => whnf); first | refine Br.t ?_ | refine Br.f ?_ | refine ⟨rfl, ?_⟩)
        conv => whnf
        rw [ex]
        refine ⟨⟨by omega, by simp; omega, rfl⟩, ?_⟩
        repeat ((conv => whnf); first | refine Br.t ?_ | refine Br.f ?_ | refine ⟨rfl, ?_⟩)
        conv => whnf
        refine ⟨i + 1, by omega, by omega, Le.slots ?_⟩
        rw [e1, e2]
        try rw [← hv1]
        simp [leS, mkS, prS, ptV]
        exact i64_id (by omega) (by omega)
      · have h2 : ¬ (x.1 : Int) = b := by simpa using h2
        rw [if_neg h2] at e2
        repeat ((conv => whnf); first | refine Br.t ?_ | refine Br.f ?_ | refine ⟨rfl, ?_⟩)
        conv => whnf
        refine ⟨i + 1, by omega, by omega, Le.slots ?_⟩
        rw [e1, e2, ← hv2]
        try rw [← hv1]
        simp [leS, mkS, prS, ptV]
        exact i64_id (by omega) (by omega)
  · have gg : i = L.length := by simp at gg; omega
    obtain ⟨f1, f2⟩ := hfull gg
    repeat ((conv => whnf); first | refine Br.t ?_ | refine Br.f ?_ | refine ⟨rfl, ?_⟩)
    conv => whnf
    refine ⟨⟨prS L a b g L.length (ptV (lastW a L)) (ptV (lastW b L)), [pgB p, cfgB c]⟩, Le.slots ?_, rfl, rfl⟩
    rw [← f1, ← f2, ← hv1, ← hv2]
    simp [leS, mkS, prS, gg]
set_option maxHeartbeats 2000000 in
theorem pair_ok (p : Pg) (hp : PgOk p) (c : Cfg) (hc : OkC p c) (a b g : Int) : CallW Try.prog G0 50 [pgV p, cfgV c, .i (.int .i64 a), .i (.int .i64 b), .i (.int .i64 g)] [] (fun r st' => r = .i (.bool (pairB (touches p c) a b g)) ∧ st' = []) := by
  refine call_of_bodyF 0 (Nat.le_refl _) Try.func50 rfl (fun a w => Try.call50 a w) (wpx_ok (own := own0) _ _ _ ?_)
  have ct := touches_ok p hp c hc
  have hlen : (touches p c).length ≤ 8 := Nat.le_trans (touchL_len p c _) hc.n.2
  obtain ⟨L, hL⟩ : ∃ L, L = touches p c := ⟨_, rfl⟩
  rw [← hL] at ct hlen ⊢
  have lp := pair_loop p c L hlen a b g
  unfold pairB
  obtain ⟨o1, ho1⟩ : ∃ o, o = lastW a L := ⟨_, rfl⟩
  obtain ⟨o2, ho2⟩ : ∃ o, o = lastW b L := ⟨_, rfl⟩
  rw [← ho1, ← ho2] at lp ⊢
  repeat ((conv => whnf); first | refine Br.t ?_ | refine Br.f ?_ | refine ⟨rfl, ?_⟩)
  conv => whnf
  refine CallW.mono (ct.pure _ rfl rfl) ?_
  rintro r st' ⟨rfl, rfl⟩
  repeat ((conv => whnf); first | refine Br.t ?_ | refine Br.f ?_ | refine ⟨rfl, ?_⟩)
  conv => whnf
  refine W.le (Le.slots (sl' := prS L a b g 0 (.i .nilp) (.i .nilp)) (by simp [leS, mkS, prS])) (W.mono lp ?_)
  rintro e s' ⟨rfl, rfl⟩
  cases o1 with
  | none =>
    repeat ((conv => whnf); first | refine Br.t ?_ | refine Br.f ?_ | refine ⟨rfl, ?_⟩)
    conv => whnf
    refine draw_ok (own := own0) [] [] [] rfl (by kernel_rfl) (Nat.zero_le _) ?_
    repeat ((conv => whnf); first | refine Br.t ?_ | refine Br.f ?_ | refine ⟨rfl, ?_⟩)
    conv => whnf
    refine ⟨by repeat ((conv => whnf); first | exact trivial | refine ⟨rfl, ?_⟩), trivial, ?_⟩
    conv => whnf
    repeat ((conv => whnf); first | refine Br.t ?_ | refine Br.f ?_ | refine ⟨rfl, ?_⟩)
    conv => whnf
    refine fin (target := []) rfl (Nat.zero_le _) (by simp) rfl rfl
  | some x =>
    cases o2 with
    | none =>
      repeat ((conv => whnf); first | refine Br.t ?_ | refine Br.f ?_ | refine ⟨rfl, ?_⟩)
      conv => whnf
      refine draw_ok (own := own0) [] [] [] rfl (by kernel_rfl) (Nat.zero_le _) ?_
      repeat ((conv => whnf); first | refine Br.t ?_ | refine Br.f ?_ | refine ⟨rfl, ?_⟩)
      conv => whnf
      refine ⟨by repeat ((conv => whnf); first | exact trivial | refine ⟨rfl, ?_⟩), trivial, ?_⟩
      conv => whnf
      repeat ((conv => whnf); first | refine Br.t ?_ | refine Br.f ?_ | refine ⟨rfl, ?_⟩)
      conv => whnf
      refine fin (target := []) rfl (Nat.zero_le _) (by simp) rfl rfl
    | some y =>
      have cg := against_ok x y
      obtain ⟨q, hq⟩ : ∃ q, q = agB x y := ⟨_, rfl⟩
      rw [← hq] at cg
      repeat ((conv => whnf); first | refine Br.t ?_ | refine Br.f ?_ | refine ⟨rfl, ?_⟩)
      conv => whnf
      refine draw_ok (own := own0) [] [] [(.i (.bool q), [pgB p, cfgB c])] rfl (by kernel_rfl) (Nat.zero_le _) ?_
      repeat ((conv => whnf); first | refine Br.t ?_ | refine Br.f ?_ | refine ⟨rfl, ?_⟩)
      conv => whnf
      refine ⟨cg.pure _ rfl rfl, ?_⟩
      cases q with
      | false =>
        repeat ((conv => whnf); first | refine Br.t ?_ | refine Br.f ?_ | refine ⟨rfl, ?_⟩)
        conv => whnf
        refine ⟨by repeat ((conv => whnf); first | exact trivial | refine ⟨rfl, ?_⟩), trivial, ?_⟩
        conv => whnf
        repeat ((conv => whnf); first | refine Br.t ?_ | refine Br.f ?_ | refine ⟨rfl, ?_⟩)
        conv => whnf
        refine fin (target := []) rfl (Nat.zero_le _) (by simp) (by simp [← hq]) rfl
      | true =>
        repeat ((conv => whnf); first | refine Br.t ?_ | refine Br.f ?_ | refine ⟨rfl, ?_⟩)
        conv => whnf
        refine ⟨by repeat ((conv => whnf); first | exact trivial | refine ⟨rfl, ?_⟩), trivial, ?_⟩
        conv => whnf
        repeat ((conv => whnf); first | refine Br.t ?_ | refine Br.f ?_ | refine ⟨rfl, ?_⟩)
        conv => whnf
        refine fin (target := []) rfl (Nat.zero_le _) (by simp) (by simp [← hq]; rfl) rfl
end Go.Proofs.Ytiikndppckjmhaa.Am
