/- Plain laws and contracts: programs that may be are alike just if their bytes are. -/
import Derived.Test.YtdbmfnhbgacldaaPrH
namespace Go.Proofs.Ytdbmfnhbgacldaa.Am
set_option autoImplicit false
set_option linter.unusedVariables false
set_option linter.unusedSimpArgs false
set_option maxRecDepth 10000
set_option pp.maxSteps 20000
set_option pp.proofs false
theorem put_inj {n m : Nat} {r r' : List Nat} (hn : n < 4294967296) (hm : m < 4294967296) (h : putN n ++ r = putN m ++ r') : n = m ∧ r = r' := by
  have h1 := getV_put n 0 0 r (by omega) (by omega)
  have h2 := getV_put m 0 0 r' (by omega) (by omega)
  rw [h, h2] at h1
  simp at h1
  have e : m = n := h1.1
  subst e
  exact ⟨rfl, List.append_cancel_left h⟩
theorem flds_inj {x y : Nd} (hx : ndOk x) (hy : ndOk y) : ∀ (l : List Nat) (r r' : List Nat), (l.flatMap fun c => putN (fld x c).toNat) ++ r = (l.flatMap fun c => putN (fld y c).toNat) ++ r' → (∀ c ∈ l, fld x c = fld y c) ∧ r = r'
  | [], r, r', h => ⟨by simp, h⟩
  | c :: l, r, r', h => by
    rw [List.flatMap_cons, List.flatMap_cons, List.append_assoc, List.append_assoc] at h
    have h1 := hx.2.1 c
    have h2 := hy.2.1 c
    obtain ⟨e1, e2⟩ := put_inj (by omega) (by omega) h
    obtain ⟨e3, e4⟩ := flds_inj hx hy l r r' e2
    refine ⟨fun d hd => ?_, e4⟩
    simp only [List.mem_cons] at hd
    rcases hd with rfl | hd
    · omega
    · exact e3 d hd
theorem node_inj {x y : Nd} {r r' : List Nat} (hx : ndOk x) (hy : ndOk y) (h : nodeN x ++ r = nodeN y ++ r') : x = y ∧ r = r' := by
  rw [nodeN, nodeN, List.append_assoc, List.append_assoc] at h
  have h1 := hx.1
  have h2 := hy.1
  obtain ⟨e1, e2⟩ := put_inj (by omega) (by omega) h
  have ek : x.1 = y.1 := by omega
  rw [ek] at e2
  obtain ⟨e3, e4⟩ := flds_inj hx hy _ r r' e2
  have key : ∀ c, c = 1 ∨ c = 2 ∨ c = 3 → fld x c = fld y c := by
    intro c hc
    by_cases hm : c ∈ partsL y.1
    · exact e3 c hm
    · rw [hx.2.2 c hc (by rw [ek]; exact hm), hy.2.2 c hc hm]
  have k1 := key 1 (by omega)
  have k2 := key 2 (by omega)
  have k3 := key 3 (by omega)
  obtain ⟨x1, x2, x3, x4⟩ := x
  obtain ⟨y1, y2, y3, y4⟩ := y
  simp only [fld] at k1 k2 k3 ek
  simp at k1 k2 k3
  refine ⟨?_, e4⟩
  rw [ek, k1, k2, k3]
theorem nodes_inj : ∀ (l m : List Nd) (r r' : List Nat), l.length = m.length → (∀ x ∈ l, ndOk x) → (∀ x ∈ m, ndOk x) → l.flatMap nodeN ++ r = m.flatMap nodeN ++ r' → l = m ∧ r = r'
  | [], [], r, r', _, _, _, h => ⟨rfl, h⟩
  | [], y :: m, r, r', hl, _, _, h => by simp at hl
  | x :: l, [], r, r', hl, _, _, h => by simp at hl
  | x :: l, y :: m, r, r', hl, hx, hy, h => by
    rw [List.flatMap_cons, List.flatMap_cons, List.append_assoc, List.append_assoc] at h
    obtain ⟨e1, e2⟩ := node_inj (hx x (by simp)) (hy y (by simp)) h
    obtain ⟨e3, e4⟩ := nodes_inj l m r r' (by simpa using hl) (fun z hz => hx z (by simp [hz])) (fun z hz => hy z (by simp [hz])) e2
    exact ⟨by rw [e1, e3], e4⟩
theorem fns_inj : ∀ (l m : List (List Nd)), l.length = m.length → (∀ L ∈ l, L.length ≤ 64 ∧ ∀ x ∈ L, ndOk x) → (∀ L ∈ m, L.length ≤ 64 ∧ ∀ x ∈ L, ndOk x) → l.flatMap fnN = m.flatMap fnN → l = m
  | [], [], _, _, _, h => rfl
  | [], y :: m, hl, _, _, h => by simp at hl
  | x :: l, [], hl, _, _, h => by simp at hl
  | x :: l, y :: m, hl, hx, hy, h => by
    rw [List.flatMap_cons, List.flatMap_cons, fnN, fnN, List.append_assoc, List.append_assoc] at h
    have a := (hx x (by simp)).1
    have b := (hy y (by simp)).1
    obtain ⟨e1, e2⟩ := put_inj (by omega) (by omega) h
    obtain ⟨e3, e4⟩ := nodes_inj x y _ _ e1 (hx x (by simp)).2 (hy y (by simp)).2 e2
    have e5 := fns_inj l m (by simpa using hl) (fun z hz => hx z (by simp [hz])) (fun z hz => hy z (by simp [hz])) e4
    rw [e3, e5]
theorem prog_inj {p q : Pg} (hp : PgOk p) (hq : PgOk q) (h : progN p = progN q) : p.g = q.g ∧ p.l = q.l ∧ p.s = q.s ∧ p.fs = q.fs := by
  unfold progN numsP at h
  rw [List.append_assoc, List.append_assoc] at h
  have h := List.append_cancel_left h
  simp only [List.flatMap_cons, List.flatMap_nil, List.append_assoc, List.nil_append] at h
  have := hp.g; have := hq.g; have := hp.l; have := hq.l; have := hp.s; have := hq.s; have := hp.n; have := hq.n
  obtain ⟨e1, h⟩ := put_inj (by omega) (by omega) h
  obtain ⟨e2, h⟩ := put_inj (by omega) (by omega) h
  obtain ⟨e3, h⟩ := put_inj (by omega) (by omega) h
  obtain ⟨e4, h⟩ := put_inj (by omega) (by omega) h
  refine ⟨by omega, by omega, by omega, fns_inj _ _ e4 (fun L hL => ⟨(hp.f L hL).2.1, fun x hx => hp.nd hL hx⟩) (fun L hL => ⟨(hq.f L hL).2.1, fun x hx => hq.nd hL hx⟩) h⟩
theorem samePg_iff {p q : Pg} : samePg p q = true ↔ p = q := by
  obtain ⟨g, l, s, fs⟩ := p
  obtain ⟨g', l', s', fs'⟩ := q
  simp [samePg]
  constructor
  · rintro ⟨⟨⟨a, b⟩, c⟩, d⟩; exact ⟨a, b, c, d⟩
  · rintro ⟨a, b, c, d⟩; exact ⟨⟨⟨a, b⟩, c⟩, d⟩
theorem progN_byte {p : Pg} (h : PgOk p) : (∀ b ∈ progN p, b < 256) ∧ (progN p).length ≤ 22000 := by
  refine ⟨fun b hb => ?_, ?_⟩
  · simp only [progN, alp, List.mem_append, List.mem_flatMap, fnN, nodeN] at hb
    rcases hb with (hb | ⟨n, _, hb⟩) | ⟨L, _, hb | ⟨x, _, hb | ⟨c, _, hb⟩⟩⟩
    · simp at hb; omega
    · exact putN_byte _ b hb
    · exact putN_byte _ b hb
    · exact putN_byte _ b hb
    · exact putN_byte _ b hb
  · have h1 := flat_le (b := 5) (l := numsP p) (f := putN) (fun x hx => put_le (by
      have := h.g; have := h.l; have := h.s; have := h.n
      simp [numsP] at hx
      omega))
    have h2 := flat_le (b := 1285) (l := p.fs) (f := fnN) (fun L hL => fn_len (h.f L hL).2.1 (fun x hx => h.nd hL hx))
    have := h.n
    rw [progN, List.length_append, List.length_append]
    simp only [alp, numsP, List.length_cons, List.length_nil] at h1 ⊢
    omega
def p0 : Pg := ⟨0, 0, 0, [[(9, 0, 0, 0)]]⟩
theorem chk_p0 : (chk p0).2.2 = 0 := by decide
theorem prog_p0 : progN p0 = [97, 108, 112, 49, 0, 0, 0, 1, 1, 9] := by
  show alp ++ (putN 0 ++ (putN 0 ++ (putN 0 ++ (putN 1 ++ [])))) ++ ((putN 1 ++ ((putN 9 ++ []) ++ [])) ++ []) = _
  rw [(num_nat 0).2 (by decide), (num_nat 1).2 (by decide), (num_nat 9).2 (by decide)]
  rfl
theorem okPg_p0 : okPg p0 := ⟨by decide, by decide⟩
theorem awake15 : CallW Try.prog G0 15 [] [] (fun r st' => r = .i (.bool true) ∧ st' = []) := by
  refine call_of_bodyF 0 (Nat.le_refl _) Try.func15 rfl (fun a w => Try.call15 a w) (wpx_ok (own := own0) _ _ _ ?_)
  repeat ((conv => whnf); first | refine Br.t ?_ | refine Br.f ?_ | refine ⟨rfl, ?_⟩)
  conv => whnf
  have c := write17 p0 okPg_p0
  rw [if_pos chk_p0, chk_p0, prog_p0] at c
  refine CallW.mono (c.pure _ rfl rfl) ?_
  rintro r st' ⟨rfl, rfl⟩
  repeat ((conv => whnf); first | refine Br.t ?_ | refine Br.f ?_ | refine ⟨rfl, ?_⟩)
  conv => whnf
  refine ⟨isB_ok (isB_map [97, 108, 112, 49, 0, 0, 0, 1, 1, 9]), ?_⟩
  repeat ((conv => whnf); first | refine Br.t ?_ | refine Br.f ?_ | refine ⟨rfl, ?_⟩)
  conv => whnf
  refine fin (target := []) rfl (Nat.zero_le _) (by simp) rfl rfl
set_option maxHeartbeats 1000000 in
theorem law4 (p q : Pg) (hp : okPg p) (hq : okPg q) : CallW Try.prog G0 4 [pgV p, pgV q] [] (fun r st' => r = .i (.bool true) ∧ st' = []) := by
  refine call_of_bodyF 0 (Nat.le_refl _) Try.func4 rfl (fun a w => Try.call4 a w) (wpx_ok (own := own0) _ _ _ ?_)
  repeat ((conv => whnf); first | refine Br.t ?_ | refine Br.f ?_ | refine ⟨rfl, ?_⟩)
  conv => whnf
  refine CallW.mono (awake15.pure _ rfl rfl) ?_
  rintro r st' ⟨rfl, rfl⟩
  repeat ((conv => whnf); first | refine Br.t ?_ | refine Br.f ?_ | refine ⟨rfl, ?_⟩)
  conv => whnf
  refine CallW.mono ((small16 p hp).pure _ rfl rfl) ?_
  rintro r st' ⟨rfl, rfl⟩
  repeat ((conv => whnf); first | refine Br.t ?_ | refine Br.f ?_ | refine ⟨rfl, ?_⟩)
  conv => whnf
  refine Br.mk (fun z => ?_) (fun z => ?_)
  · repeat ((conv => whnf); first | refine Br.t ?_ | refine Br.f ?_ | refine ⟨rfl, ?_⟩)
    conv => whnf
    refine CallW.mono (awake15.pure _ rfl rfl) ?_
    rintro r st' ⟨rfl, rfl⟩
    repeat ((conv => whnf); first | refine Br.t ?_ | refine Br.f ?_ | refine ⟨rfl, ?_⟩)
    conv => whnf
    refine fin (target := []) rfl (Nat.zero_le _) (by simp) rfl rfl
  · repeat ((conv => whnf); first | refine Br.t ?_ | refine Br.f ?_ | refine ⟨rfl, ?_⟩)
    conv => whnf
    refine CallW.mono ((small16 q hq).pure _ rfl rfl) ?_
    rintro r st' ⟨rfl, rfl⟩
    repeat ((conv => whnf); first | refine Br.t ?_ | refine Br.f ?_ | refine ⟨rfl, ?_⟩)
    conv => whnf
    refine Br.mk (fun z => ?_) (fun z => ?_)
    · repeat ((conv => whnf); first | refine Br.t ?_ | refine Br.f ?_ | refine ⟨rfl, ?_⟩)
      conv => whnf
      refine CallW.mono (awake15.pure _ rfl rfl) ?_
      rintro r st' ⟨rfl, rfl⟩
      repeat ((conv => whnf); first | refine Br.t ?_ | refine Br.f ?_ | refine ⟨rfl, ?_⟩)
      conv => whnf
      refine fin (target := []) rfl (Nat.zero_le _) (by simp) rfl rfl
    · repeat ((conv => whnf); first | refine Br.t ?_ | refine Br.f ?_ | refine ⟨rfl, ?_⟩)
      conv => whnf
      refine CallW.mono ((write17 p hp).pure _ rfl rfl) ?_
      rintro r st' ⟨rfl, rfl⟩
      repeat ((conv => whnf); first | refine Br.t ?_ | refine Br.f ?_ | refine ⟨rfl, ?_⟩)
      conv => whnf
      refine CallW.mono ((write17 q hq).pure _ rfl rfl) ?_
      rintro r st' ⟨rfl, rfl⟩
      by_cases h1 : (chk p).2.2 = 0
      · by_cases h2 : (chk q).2.2 = 0
        · have op := chk_zero h1
          have oq := chk_zero h2
          have ei : strOf (progN p) = strOf (progN q) ↔ p = q := by
            constructor
            · intro e
              have e1 := strOf_inj (progN_byte op).1 (progN_byte oq).1 e
              obtain ⟨a, b, c, d⟩ := prog_inj op oq e1
              obtain ⟨g, l, s, fs⟩ := p
              obtain ⟨g', l', s', fs'⟩ := q
              simp only at a b c d
              rw [a, b, c, d]
            · rintro rfl; rfl
          rw [if_pos h1, if_pos h2, h1, h2]
          repeat ((conv => whnf); first | refine Br.t ?_ | refine Br.f ?_ | refine ⟨rfl, ?_⟩)
          conv => whnf
          refine draw_ok (own := own0) [] [] [(.i (.bool (samePg p q)), [pgB p, pgB q])] rfl (by kernel_rfl) (Nat.zero_le _) ?_
          repeat ((conv => whnf); first | refine Br.t ?_ | refine Br.f ?_ | refine ⟨rfl, ?_⟩)
          conv => whnf
          refine ⟨isB_ok (isB_map (progN p)), ?_⟩
          repeat ((conv => whnf); first | refine Br.t ?_ | refine Br.f ?_ | refine ⟨rfl, ?_⟩)
          conv => whnf
          refine ⟨isB_ok (isB_map (progN q)), ?_⟩
          repeat ((conv => whnf); first | refine Br.t ?_ | refine Br.f ?_ | refine ⟨rfl, ?_⟩)
          conv => whnf
          refine ⟨(same18 p q hp hq).pure _ rfl rfl, ?_⟩
          repeat ((conv => whnf); first | refine Br.t ?_ | refine Br.f ?_ | refine ⟨rfl, ?_⟩)
          conv => whnf
          refine ⟨by repeat ((conv => whnf); first | exact trivial | refine ⟨rfl, ?_⟩), trivial, ?_⟩
          conv => whnf
          refine fin (target := []) rfl (Nat.zero_le _) (by simp) ?_ rfl
          show V.i (I.bool (((strOf (progN p)).data.toList == (strOf (progN q)).data.toList) == samePg p q)) = _
          by_cases e : p = q
          · rw [samePg_iff.2 e, e]; simp
          · have e1 : samePg p q = false := by rw [Bool.eq_false_iff]; exact fun h => e (samePg_iff.1 h)
            have e2 : ((strOf (progN p)).data.toList == (strOf (progN q)).data.toList) = false := by
              rw [Bool.eq_false_iff]
              intro h
              apply e
              apply ei.1
              apply ByteArray.ext
              apply Array.toList_inj.1
              simpa using h
            rw [e1, e2]; rfl
        · rw [if_pos h1, if_neg h2, h1]
          repeat ((conv => whnf); first | refine Br.t ?_ | refine Br.f ?_ | refine ⟨rfl, ?_⟩)
          conv => whnf
          refine Br.mk (fun z => ?_) (fun z => by simp at z; exact absurd z h2)
          repeat ((conv => whnf); first | refine Br.t ?_ | refine Br.f ?_ | refine ⟨rfl, ?_⟩)
          conv => whnf
          refine fin (target := []) rfl (Nat.zero_le _) (by simp) rfl rfl
      · rw [if_neg h1]
        repeat ((conv => whnf); first | refine Br.t ?_ | refine Br.f ?_ | refine ⟨rfl, ?_⟩)
        conv => whnf
        refine Br.mk (fun z => ?_) (fun z => by simp at z; exact absurd z h1)
        repeat ((conv => whnf); first | refine Br.t ?_ | refine Br.f ?_ | refine ⟨rfl, ?_⟩)
        conv => whnf
        refine fin (target := []) rfl (Nat.zero_le _) (by simp) rfl rfl
end Go.Proofs.Ytdbmfnhbgacldaa.Am
