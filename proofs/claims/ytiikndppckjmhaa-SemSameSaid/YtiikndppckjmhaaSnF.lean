/- Contracts: whether two configs are the same. -/
import Derived.Test.YtiikndppckjmhaaSnE
namespace Go.Proofs.Ytiikndppckjmhaa.Am
set_option autoImplicit false
set_option linter.unusedVariables false
set_option linter.unusedSimpArgs false
set_option maxRecDepth 10000
set_option pp.maxSteps 3000
set_option pp.proofs false
theorem fr_eq (x y : Nat × Nat) : ((x.1 : Int) == (y.1 : Int) && ((x.2 : Int) == (y.2 : Int) && true)) = decide (x = y) := by
  obtain ⟨a, b⟩ := x
  obtain ⟨c, d⟩ := y
  rw [Bool.eq_iff_iff]
  simp
  omega
theorem equal_dec (L M : List (Nat × Nat)) (hl : L.length ≤ 1000) (hm : M.length ≤ 1000) : CallW Try.prog G0 87 [.i (.sl (L.map encFr)), .i (.sl (M.map encFr))] [] (fun r st' => r = .i (.bool (decide (L = M))) ∧ st' = []) := by
  refine call_of_bodyF 0 (Nat.le_refl _) Try.func87 rfl (fun a w => Try.call87 a w) (wpx_ok (own := own0) _ _ _ ?_)
  repeat ((conv => whnf); first | refine Br.t ?_ | refine Br.f ?_ | refine ⟨rfl, ?_⟩)
  conv => whnf
  refine Br.mk (fun h => ?_) (fun h => ?_)
  · have h : L.length ≠ M.length := by simp at h; omega
    rw [decide_eq_false (fun e => h (by rw [e]))]
    repeat ((conv => whnf); first | refine Br.t ?_ | refine Br.f ?_ | refine ⟨rfl, ?_⟩)
    conv => whnf
    refine fin (target := []) rfl (Nat.zero_le _) (by simp) rfl rfl
  · have hlm : L.length = M.length := by simp at h; omega
    obtain ⟨R, hR⟩ : ∃ R, R = decide (L = M) := ⟨_, rfl⟩
    rw [← hR]
    repeat ((conv => whnf); first | refine Br.t ?_ | refine Br.f ?_ | refine ⟨rfl, ?_⟩)
    conv => whnf
    refine loop_ok (α := Nat) (fun i => ⟨mkS 26 [(0, .i (.sl (L.map encFr))), (1, .i (.sl (M.map encFr))), (12, .i (.int .i64 L.length)), (13, .i (.int .i64 i))], []⟩)
      (fun i => i ≤ L.length ∧ decide (L.drop i = M.drop i) = R) (fun i => L.length - i) 0 ⟨Nat.zero_le _, hR.symm⟩ (Le.slots (by simp [leS, mkS])) (fun i hi => wpx_ok (own := own0) _ _ _ ?_)
    obtain ⟨h1, h2⟩ := hi
    repeat ((conv => whnf); first | refine Br.t ?_ | refine Br.f ?_ | refine ⟨rfl, ?_⟩)
    conv => whnf
    refine Br.mk (fun g => ?_) (fun g => ?_)
    · have g : i < L.length := by simpa using g
      obtain ⟨x, hx⟩ : ∃ x, x = L[i] := ⟨_, rfl⟩
      obtain ⟨y, hy⟩ : ∃ y, y = M[i]'(by omega) := ⟨_, rfl⟩
      have ex : (L.map encFr).getD (i : Int).toNat [] = encFr x := by rw [hx]; exact getD_enc g
      have ey : (M.map encFr).getD (i : Int).toNat [] = encFr y := by rw [hy]; exact getD_enc (by omega)
      have edx : L.drop i = x :: L.drop (i + 1) := by rw [hx]; exact List.drop_eq_getElem_cons g
      have edy : M.drop i = y :: M.drop (i + 1) := by rw [hy]; exact List.drop_eq_getElem_cons (by omega)
      rw [edx, edy] at h2
      have hfe := fr_eq x y
      repeat ((conv => whnf); first | refine Br.t ?_ | refine Br.f ?_ | refine ⟨rfl, ?_⟩)
      conv => whnf
      refine draw_ok (own := own0) [] [] [] rfl (by kernel_rfl) (Nat.zero_le _) ?_
      repeat ((conv => whnf); first | refine Br.t ?_ | refine Br.f ?_ | refine ⟨rfl, ?_⟩)
      conv => whnf
      rw [ex]
      refine ⟨⟨by omega, by simp; omega, rfl⟩, ?_⟩
      repeat ((conv => whnf); first | refine Br.t ?_ | refine Br.f ?_ | refine ⟨rfl, ?_⟩)
      conv => whnf
      rw [ey]
      refine ⟨⟨by omega, by simp; omega, rfl⟩, ?_⟩
      repeat ((conv => whnf); first | refine Br.t ?_ | refine Br.f ?_ | refine ⟨rfl, ?_⟩)
      conv => whnf
      refine ⟨by kernel_rfl, ?_⟩
      repeat ((conv => whnf); first | refine Br.t ?_ | refine Br.f ?_ | refine ⟨rfl, ?_⟩)
      conv => whnf
      refine ⟨by repeat ((conv => whnf); first | exact trivial | refine ⟨rfl, ?_⟩), trivial, ?_⟩
      conv => whnf
      rw [hfe]
      refine Br.mk (fun h => ?_) (fun h => ?_)
      · have hxy : x ≠ y := by simpa using h
        have hRf : R = false := by rw [← h2]; simp [hxy]
        rw [hRf]
        repeat ((conv => whnf); first | refine Br.t ?_ | refine Br.f ?_ | refine ⟨rfl, ?_⟩)
        conv => whnf
        refine fin (target := []) rfl (Nat.zero_le _) (by simp) rfl rfl
      · have hxy : x = y := by simpa using h
        repeat ((conv => whnf); first | refine Br.t ?_ | refine Br.f ?_ | refine ⟨rfl, ?_⟩)
        conv => whnf
        refine ⟨i + 1, ⟨by omega, by rw [← h2, hxy]; simp⟩, by omega, Le.slots ?_⟩
        simp [leS, mkS]
        exact i64_id (by omega) (by omega)
    · have g : i = L.length := by simp at g; omega
      have hRt : R = true := by rw [← h2, g, List.drop_length, hlm, List.drop_length]; rfl
      rw [hRt]
      repeat ((conv => whnf); first | refine Br.t ?_ | refine Br.f ?_ | refine ⟨rfl, ?_⟩)
      conv => whnf
      refine fin (target := []) rfl (Nat.zero_le _) (by simp) rfl rfl
theorem sl_eq (a b : List Nat) (ha : a.length = 8) (hb : b.length = 8) : (((a.getD 0 0 : Nat) : Int) == ((b.getD 0 0 : Nat) : Int) && (((a.getD 1 0 : Nat) : Int) == ((b.getD 1 0 : Nat) : Int) && (((a.getD 2 0 : Nat) : Int) == ((b.getD 2 0 : Nat) : Int) && (((a.getD 3 0 : Nat) : Int) == ((b.getD 3 0 : Nat) : Int) && (((a.getD 4 0 : Nat) : Int) == ((b.getD 4 0 : Nat) : Int) && (((a.getD 5 0 : Nat) : Int) == ((b.getD 5 0 : Nat) : Int) && (((a.getD 6 0 : Nat) : Int) == ((b.getD 6 0 : Nat) : Int) && (((a.getD 7 0 : Nat) : Int) == ((b.getD 7 0 : Nat) : Int) && true)))))))) = decide (a = b) := by
  match a, ha with
  | [a0, a1, a2, a3, a4, a5, a6, a7], _ =>
    match b, hb with
    | [b0, b1, b2, b3, b4, b5, b6, b7], _ =>
      rw [Bool.eq_iff_iff]
      simp
      try omega
theorem ow_eq (a b : List Nat) (ha : a.length = 16) (hb : b.length = 16) : (((a.getD 0 0 : Nat) : Int) == ((b.getD 0 0 : Nat) : Int) && (((a.getD 1 0 : Nat) : Int) == ((b.getD 1 0 : Nat) : Int) && (((a.getD 2 0 : Nat) : Int) == ((b.getD 2 0 : Nat) : Int) && (((a.getD 3 0 : Nat) : Int) == ((b.getD 3 0 : Nat) : Int) && (((a.getD 4 0 : Nat) : Int) == ((b.getD 4 0 : Nat) : Int) && (((a.getD 5 0 : Nat) : Int) == ((b.getD 5 0 : Nat) : Int) && (((a.getD 6 0 : Nat) : Int) == ((b.getD 6 0 : Nat) : Int) && (((a.getD 7 0 : Nat) : Int) == ((b.getD 7 0 : Nat) : Int) && (((a.getD 8 0 : Nat) : Int) == ((b.getD 8 0 : Nat) : Int) && (((a.getD 9 0 : Nat) : Int) == ((b.getD 9 0 : Nat) : Int) && (((a.getD 10 0 : Nat) : Int) == ((b.getD 10 0 : Nat) : Int) && (((a.getD 11 0 : Nat) : Int) == ((b.getD 11 0 : Nat) : Int) && (((a.getD 12 0 : Nat) : Int) == ((b.getD 12 0 : Nat) : Int) && (((a.getD 13 0 : Nat) : Int) == ((b.getD 13 0 : Nat) : Int) && (((a.getD 14 0 : Nat) : Int) == ((b.getD 14 0 : Nat) : Int) && (((a.getD 15 0 : Nat) : Int) == ((b.getD 15 0 : Nat) : Int) && true)))))))))))))))) = decide (a = b) := by
  match a, ha with
  | [a0, a1, a2, a3, a4, a5, a6, a7, a8, a9, a10, a11, a12, a13, a14, a15], _ =>
    match b, hb with
    | [b0, b1, b2, b3, b4, b5, b6, b7, b8, b9, b10, b11, b12, b13, b14, b15], _ =>
      rw [Bool.eq_iff_iff]
      simp
      try omega
def sameT (t u : Th) : Bool := decide (t.sl = u.sl) && decide (t.stk = u.stk)
theorem clos_dec (t u : Th) (hl : t.stk.length ≤ 1000) (hm : u.stk.length ≤ 1000) (h8 : t.sl.length = 8) (k8 : u.sl.length = 8) : CallW Try.prog G0 86 [thV t, thV u] [] (fun r st' => r = .i (.bool (sameT t u)) ∧ st' = []) := by
  refine call_of_bodyF 0 (Nat.le_refl _) Try.func86 rfl (fun a w => Try.call86 a w) (wpx_ok (own := own0) _ _ _ ?_)
  have he := sl_eq t.sl u.sl h8 k8
  unfold sameT
  repeat ((conv => whnf); first | refine Br.t ?_ | refine Br.f ?_ | refine ⟨rfl, ?_⟩)
  conv => whnf
  rw [he]
  obtain ⟨q, hq⟩ : ∃ q, q = decide (t.sl = u.sl) := ⟨_, rfl⟩
  rw [← hq]
  cases q with
  | true =>
    repeat ((conv => whnf); first | refine Br.t ?_ | refine Br.f ?_ | refine ⟨rfl, ?_⟩)
    conv => whnf
    refine CallW.mono ((equal_dec t.stk u.stk hl hm).pure _ rfl rfl) ?_
    rintro r st' ⟨rfl, rfl⟩
    repeat ((conv => whnf); first | refine Br.t ?_ | refine Br.f ?_ | refine ⟨rfl, ?_⟩)
    conv => whnf
    refine fin (target := []) rfl (Nat.zero_le _) (by simp) rfl rfl
  | false =>
    repeat ((conv => whnf); first | refine Br.t ?_ | refine Br.f ?_ | refine ⟨rfl, ?_⟩)
    conv => whnf
    refine fin (target := []) rfl (Nat.zero_le _) (by simp) rfl rfl
def sameTs : List Th → List Th → Bool
  | [], [] => true
  | t :: r, u :: s => sameT t u && sameTs r s
  | _, _ => false
theorem sameTs_len : ∀ {r s : List Th}, sameTs r s = true → r.length = s.length
  | [], [], _ => rfl
  | [], _ :: _, h => by simp [sameTs] at h
  | _ :: _, [], h => by simp [sameTs] at h
  | t :: r, u :: s, h => by
    rw [sameTs, Bool.and_eq_true] at h
    simp [sameTs_len h.2]
def efD (c d : Cfg) (i : Nat) : List V := mkS 32 [(1, .i (.sl (d.ths.map encTh))), (2, .fn (.func 86) [] []), (15, .i (.sl (c.ths.map encTh))), (16, .i (.int .i64 c.ths.length)), (17, .i (.int .i64 i))]
theorem efunc_dec (p : Pg) (hp : PgOk p) (c d : Cfg) (hc : OkC p c) (hd : OkC p d) : CallW Try.prog G0 85 [.i (.sl (c.ths.map encTh)), .i (.sl (d.ths.map encTh)), .fn (.func 86) [] []] [] (fun r st' => r = .i (.bool (sameTs c.ths d.ths)) ∧ st' = []) := by
  refine call_of_bodyF 0 (Nat.le_refl _) Try.func85 rfl (fun a w => Try.call85 a w) (wpx_ok (own := own0) _ _ _ ?_)
  have hn := hc.n.2
  have hdn := hd.n.2
  have hpn := hp.n.2
  obtain ⟨R, hR⟩ : ∃ R, R = sameTs c.ths d.ths := ⟨_, rfl⟩
  rw [← hR]
  repeat ((conv => whnf); first | refine Br.t ?_ | refine Br.f ?_ | refine ⟨rfl, ?_⟩)
  conv => whnf
  refine Br.mk (fun h => ?_) (fun h => ?_)
  · have h : c.ths.length ≠ d.ths.length := by simp at h; omega
    have hRf : R = false := by
      rw [hR, Bool.eq_false_iff]; exact fun e => h (sameTs_len e)
    rw [hRf]
    repeat ((conv => whnf); first | refine Br.t ?_ | refine Br.f ?_ | refine ⟨rfl, ?_⟩)
    conv => whnf
    refine fin (target := []) rfl (Nat.zero_le _) (by simp) rfl rfl
  · have hlm : c.ths.length = d.ths.length := by simp at h; omega
    repeat ((conv => whnf); first | refine Br.t ?_ | refine Br.f ?_ | refine ⟨rfl, ?_⟩)
    conv => whnf
    refine loop_ok (α := Nat) (fun i => ⟨efD c d i, []⟩)
      (fun i => i ≤ c.ths.length ∧ sameTs (c.ths.drop i) (d.ths.drop i) = R) (fun i => c.ths.length - i) 0 ⟨Nat.zero_le _, hR.symm⟩ (Le.slots (by simp [leS, mkS, efD])) (fun i hi => wpx_ok (own := own0) _ _ _ ?_)
    obtain ⟨h1, h2⟩ := hi
    repeat ((conv => whnf); first | refine Br.t ?_ | refine Br.f ?_ | refine ⟨rfl, ?_⟩)
    conv => whnf
    refine Br.mk (fun g => ?_) (fun g => ?_)
    · have g : i < c.ths.length := by simpa using g
      have g2 : i < d.ths.length := by omega
      have ht : c.ths[i]? = some c.ths[i] := List.getElem?_eq_getElem g
      have hu : d.ths[i]? = some d.ths[i] := List.getElem?_eq_getElem g2
      rw [List.drop_eq_getElem_cons g, List.drop_eq_getElem_cons g2, sameTs] at h2
      have okt := hc.th _ (List.mem_of_getElem? ht)
      have oku := hd.th _ (List.mem_of_getElem? hu)
      obtain ⟨t, ett⟩ : ∃ t, t = c.ths[i] := ⟨_, rfl⟩
      obtain ⟨u, euu⟩ : ∃ u, u = d.ths[i] := ⟨_, rfl⟩
      rw [← ett] at ht okt h2
      rw [← euu] at hu oku h2
      have hht := okt.h
      have hhu := oku.h
      have cd := clos_dec t u (by omega) (by omega) okt.sl oku.sl
      obtain ⟨q, hq⟩ : ∃ q, q = sameT t u := ⟨_, rfl⟩
      rw [← hq] at cd h2
      repeat ((conv => whnf); first | refine Br.t ?_ | refine Br.f ?_ | refine ⟨rfl, ?_⟩)
      conv => whnf
      rw [encTh_get ht]
      refine ⟨⟨by omega, by simp; omega, rfl⟩, ?_⟩
      repeat ((conv => whnf); first | refine Br.t ?_ | refine Br.f ?_ | refine ⟨rfl, ?_⟩)
      conv => whnf
      rw [encTh_get hu]
      refine ⟨⟨by omega, by simp; omega, rfl⟩, ?_⟩
      repeat ((conv => whnf); first | refine Br.t ?_ | refine Br.f ?_ | refine ⟨rfl, ?_⟩)
      conv => whnf
      refine CallW.mono (cd.pure _ rfl rfl) ?_
      rintro r st' ⟨rfl, rfl⟩
      cases q with
      | false =>
        rw [Bool.false_and] at h2
        rw [← h2]
        repeat ((conv => whnf); first | refine Br.t ?_ | refine Br.f ?_ | refine ⟨rfl, ?_⟩)
        conv => whnf
        refine fin (target := []) rfl (Nat.zero_le _) (by simp) rfl rfl
      | true =>
        rw [Bool.true_and] at h2
        repeat ((conv => whnf); first | refine Br.t ?_ | refine Br.f ?_ | refine ⟨rfl, ?_⟩)
        conv => whnf
        refine ⟨i + 1, ⟨by omega, h2⟩, by omega, Le.back (fun _ => 0) (by intro id hid; rfl) (by simp) rfl (by simp) ?_ rfl⟩
        simp [leS, mkS, efD, V.up]
        exact ⟨rfl, i64_id (by omega) (by omega)⟩
    · have g : i = c.ths.length := by simp at g; omega
      have hRt : R = true := by rw [← h2, g, List.drop_length, hlm, List.drop_length]; rfl
      rw [hRt]
      repeat ((conv => whnf); first | refine Br.t ?_ | refine Br.f ?_ | refine ⟨rfl, ?_⟩)
      conv => whnf
      refine fin (target := []) rfl (Nat.zero_le _) (by simp) rfl rfl
def sameC (c d : Cfg) : Bool := decide (c.own = d.own) && sameTs c.ths d.ths
theorem same_dec (p : Pg) (hp : PgOk p) (c d : Cfg) (hc : OkC p c) (hd : OkC p d) : CallW Try.prog G0 45 [cfgV c, cfgV d] [] (fun r st' => r = .i (.bool (sameC c d)) ∧ st' = []) := by
  refine call_of_bodyF 0 (Nat.le_refl _) Try.func45 rfl (fun a w => Try.call45 a w) (wpx_ok (own := own0) _ _ _ ?_)
  have he := ow_eq c.own d.own hc.own hd.own
  unfold sameC
  repeat ((conv => whnf); first | refine Br.t ?_ | refine Br.f ?_ | refine ⟨rfl, ?_⟩)
  conv => whnf
  rw [he]
  obtain ⟨q, hq⟩ : ∃ q, q = decide (c.own = d.own) := ⟨_, rfl⟩
  rw [← hq]
  cases q with
  | true =>
    repeat ((conv => whnf); first | refine Br.t ?_ | refine Br.f ?_ | refine ⟨rfl, ?_⟩)
    conv => whnf
    refine CallW.mono ((efunc_dec p hp c d hc hd).pure _ rfl rfl) ?_
    rintro r st' ⟨rfl, rfl⟩
    repeat ((conv => whnf); first | refine Br.t ?_ | refine Br.f ?_ | refine ⟨rfl, ?_⟩)
    conv => whnf
    refine fin (target := []) rfl (Nat.zero_le _) (by simp) rfl rfl
  | false =>
    repeat ((conv => whnf); first | refine Br.t ?_ | refine Br.f ?_ | refine ⟨rfl, ?_⟩)
    conv => whnf
    refine fin (target := []) rfl (Nat.zero_le _) (by simp) rfl rfl
end Go.Proofs.Ytiikndppckjmhaa.Am
