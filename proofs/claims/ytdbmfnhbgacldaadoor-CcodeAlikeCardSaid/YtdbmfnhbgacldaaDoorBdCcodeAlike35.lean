/- Contracts, part 35: texts of this session, one behind the other. -/
import Derived.Test.YtdbmfnhbgacldaaDoorBdCcodeAlike34
import Derived.Test.YtdbmfnhbgacldaaDoorAmFl
import Derived.Test.YtdbmfnhbgacldaaDoorAmRd
import Derived.Lib.LaidTab
import Derived.Stop.LaidErr
/- Contracts: a section's bytes, the justifications' bytes. -/
namespace Go.Proofs.YtdbmfnhbgacldaaDoor.Am
set_option autoImplicit false
set_option linter.unusedVariables false
set_option linter.unusedSimpArgs false
set_option maxRecDepth 100000
set_option pp.maxSteps 3000
set_option pp.proofs false
theorem CallW.gmono {P : Program} {G G' : Gl} {f : FuncId} {args : List V} {st : List Ob} {K : V → List Ob → Prop} (hm : ∀ g cs, G g = some cs → G' g = some cs) (h : CallW P G f args st K) : CallW P G' f args st K :=
  ⟨h.enter, fun D μ w args' hg ha hs => h.calls D μ w args' (fun g cs h => hg g cs (hm g cs h)) ha hs⟩
theorem G1k (ks : List Nat) : ∀ g cs, G1 g = some cs → Gk (some tz) ks g = some cs := by
  intro g cs h
  unfold G1 at h
  unfold Gk
  split at h
  · rename_i h0; rw [if_pos h0]; exact h
  · cases h
/-- a writer's rows behind another row -/
def wrO (o : Ob) (k : Nat) (zs : List (List I)) : List Ob := [o, .row 0 1 false [[.ref 2 (k + 1) 0 zs.length]], .row (k + 1) 1 false (lift zs)]
theorem upO {G : Gl} {f : FuncId} {args : List V} {v : V} {k k' : Nat} {zs zs' : List (List I)} (o : Ob) (post : List Ob) (h : CallW Tryd.prog G f args (wr k zs) (fun r st' => r = v ∧ st' = wr k' zs')) (ha : V.cl.clAll 2 args = true) (hv : V.cl 0 v = true) :
    CallW Tryd.prog G f (V.ren.renAll (fm [1, 2] (wrO o k zs ++ post).length) args) (wrO o k zs ++ post) (fun r st' => r = v ∧ st' = wrO o k' zs' ++ post) := by
  refine (CallW.rise (bargs := V.ren.renAll (fm [1, 2] (wrO o k zs ++ post).length) args) (big := wrO o k zs ++ post) [1, 2] [] h rfl (by decide) (by simp [wrO]) ?_ (wr_cl _ _) (by simp) (renAll_len _ _) (args_ren ha) (.inl rfl)).mono ?_
  · simp only [wr, List.map_cons, List.map_nil, ren_lift]
    rfl
  · rintro r st' ⟨r0, s0, ⟨rfl, rfl⟩, rfl, rfl⟩
    refine ⟨ren_cl0 _ _ hv, ?_⟩
    simp only [wr, wrO, List.map_cons, List.map_nil, ren_lift]
    show putAll _ [1, 2] [Ob.row 0 1 false [[V.ref 2 (k' + 1) 0 zs'.length]], Ob.row (k' + 1) 1 false (lift zs')] = _
    simp [putAll]
theorem flat37 : ∀ L : List Nat, (L.flatMap setN).length ≤ 37 * L.length
  | [] => Nat.le_refl _
  | x :: L => by
    have h1 := flat37 L
    have h2 : (setN x).length ≤ 37 := setN_len
    simp only [List.flatMap_cons, List.length_append, List.length_cons]; omega
def scL : List V := [.undef, .ptr 0 0 0 0, .undef, .ptr 1 0 0 0] ++ List.replicate 48 .undef
def sc0 (L : List Nat) (i : Nat) : List V := [.undef, .ptr 0 0 0 0, .undef, .ptr 1 0 0 0, .undef, .undef, .undef, .undef, .undef, .undef, .undef, .undef, .undef, .undef, .undef, .undef, .undef, .undef, .i (.sl (L.map w4)), .i (.int .i64 L.length), .i (.int .i64 i)] ++ List.replicate 31 .undef
set_option maxHeartbeats 8000000 in
theorem sc_loop0 (s : Sec) (L : List Nat) (hm : ∀ m ∈ L, m < 4294967296) (hl : L.length ≤ 64) (zs : List Nat) (hz : zs.length ≤ 100000) :
    W Tryd.prog G1 0 (.loop (lp Tryd.f71 0)) (fun e s' => e = .exit 0 ∧ s' = ⟨scL, wrO (secR s) 0 ((zs ++ L.flatMap setN).map by8)⟩) ⟨sc0 L 0, wrO (secR s) 0 (zs.map by8)⟩ := by
  refine W.weak (loop_ok (α := Nat × List Nat) (fun z => ⟨sc0 L z.1, wrO (secR s) 0 (z.2.map by8)⟩) (fun z => z.1 ≤ L.length ∧ z.2.length ≤ 100000 + 37 * z.1 ∧ z.2 ++ (L.drop z.1).flatMap setN = zs ++ L.flatMap setN) (fun z => L.length - z.1) (0, zs) ⟨Nat.zero_le _, by simp only; omega, rfl⟩ (Le.refl _ _) (fun z hz => wpx_ok (own := own0) _ _ _ ?_))
  obtain ⟨i, X⟩ := z
  obtain ⟨j1, j2, j3⟩ := hz
  simp only at j1 j2 j3
  dsimp only
  generalize zs ++ L.flatMap setN = LE at j3 ⊢
  repeat ((conv => whnf); first | refine Br.t ?_ | refine Br.f ?_ | refine ⟨rfl, ?_⟩)
  conv => whnf
  refine Br.mk (fun g => ?_) (fun g => ?_)
  · have g : i < L.length := by simp at g; omega
    have edr : L.drop i = L[i] :: L.drop (i + 1) := List.drop_eq_getElem_cons g
    have ex : (L.map w4).getD ((i : Int)).toNat [] = w4 (L[i]) := by rw [Int.toNat_natCast]; exact getD_enc g
    have hx := hm _ (List.getElem_mem g)
    rw [edr, List.flatMap_cons] at j3
    generalize L[i] = x at ex hx j3
    have hsl : (setN x).length ≤ 37 := setN_len
    have cs := upO (secR s) [] (set20 0 (X.map by8) x hx (by rw [List.length_map]; omega)) rfl rfl
    rw [← List.map_append] at cs
    have j3' : (X ++ setN x) ++ (L.drop (i + 1)).flatMap setN = LE := by rw [List.append_assoc]; exact j3
    obtain ⟨K, hK⟩ : ∃ K, K = (ids x).length := ⟨_, rfl⟩
    rw [← hK] at cs
    repeat ((conv => whnf); first | refine Br.t ?_ | refine Br.f ?_ | refine ⟨rfl, ?_⟩)
    conv => whnf
    refine ⟨⟨by omega, by simp; omega, by rw [ex]; rfl⟩, ?_⟩
    rw [ex]
    repeat ((conv => whnf); first | refine Br.t ?_ | refine Br.f ?_ | refine ⟨rfl, ?_⟩)
    conv => whnf
    refine CallW.mono cs ?_
    rintro r st' ⟨rfl, rfl⟩
    repeat ((conv => whnf); first | refine Br.t ?_ | refine Br.f ?_ | refine ⟨rfl, ?_⟩)
    conv => whnf
    refine ⟨(i + 1, X ++ setN x), ⟨by simp only; omega, by simp only [List.length_append]; omega, j3'⟩, by simp only; omega, ?_⟩
    refine Le.down (fun id => if id = 2 then K + 1 else 0) (fun id hid => by cases hid) ?_ ?_
    · simp [leS, sc0, V.up]
      exact i64_id (by omega) (by omega)
    · simp [upSt, Ob.up, wrO, secR, encSec, V.up.upAll, V.up, map_up_lift]
      omega
  · have g : i = L.length := by simp at g; omega
    subst g
    rw [List.drop_length, List.flatMap_nil, List.append_nil] at j3
    rw [← j3]
    repeat ((conv => whnf); first | refine Br.t ?_ | refine Br.f ?_ | refine ⟨rfl, ?_⟩)
    conv => whnf
    exact ⟨_, Le.slE (sl' := scL) (by simp [leS, sc0, scL]) rfl, rfl, rfl⟩
def sc1 (L : List Nat) (i : Nat) : List V := [.undef, .ptr 0 0 0 0, .undef, .ptr 1 0 0 0, .undef, .undef, .undef, .undef, .undef, .undef, .undef, .undef, .undef, .undef, .undef, .undef, .undef, .undef, .undef, .undef, .undef, .undef, .undef, .undef, .undef, .undef, .undef, .undef, .undef, .undef, .undef, .undef, .i (.sl (L.map w4)), .i (.int .i64 L.length), .i (.int .i64 i)] ++ List.replicate 17 .undef
set_option maxHeartbeats 8000000 in
theorem sc_loop1 (s : Sec) (L : List Nat) (hm : ∀ m ∈ L, m < 4294967296) (hl : L.length ≤ 64) (zs : List Nat) (hz : zs.length ≤ 100000) :
    W Tryd.prog G1 0 (.loop (lp Tryd.f71 1)) (fun e s' => e = .exit 2 ∧ s' = ⟨scL, wrO (secR s) 0 ((zs ++ L.flatMap setN).map by8)⟩) ⟨sc1 L 0, wrO (secR s) 0 (zs.map by8)⟩ := by
  refine W.weak (loop_ok (α := Nat × List Nat) (fun z => ⟨sc1 L z.1, wrO (secR s) 0 (z.2.map by8)⟩) (fun z => z.1 ≤ L.length ∧ z.2.length ≤ 100000 + 37 * z.1 ∧ z.2 ++ (L.drop z.1).flatMap setN = zs ++ L.flatMap setN) (fun z => L.length - z.1) (0, zs) ⟨Nat.zero_le _, by simp only; omega, rfl⟩ (Le.refl _ _) (fun z hz => wpx_ok (own := own0) _ _ _ ?_))
  obtain ⟨i, X⟩ := z
  obtain ⟨j1, j2, j3⟩ := hz
  simp only at j1 j2 j3
  dsimp only
  generalize zs ++ L.flatMap setN = LE at j3 ⊢
  repeat ((conv => whnf); first | refine Br.t ?_ | refine Br.f ?_ | refine ⟨rfl, ?_⟩)
  conv => whnf
  refine Br.mk (fun g => ?_) (fun g => ?_)
  · have g : i < L.length := by simp at g; omega
    have edr : L.drop i = L[i] :: L.drop (i + 1) := List.drop_eq_getElem_cons g
    have ex : (L.map w4).getD ((i : Int)).toNat [] = w4 (L[i]) := by rw [Int.toNat_natCast]; exact getD_enc g
    have hx := hm _ (List.getElem_mem g)
    rw [edr, List.flatMap_cons] at j3
    generalize L[i] = x at ex hx j3
    have hsl : (setN x).length ≤ 37 := setN_len
    have cs := upO (secR s) [] (set20 0 (X.map by8) x hx (by rw [List.length_map]; omega)) rfl rfl
    rw [← List.map_append] at cs
    have j3' : (X ++ setN x) ++ (L.drop (i + 1)).flatMap setN = LE := by rw [List.append_assoc]; exact j3
    obtain ⟨K, hK⟩ : ∃ K, K = (ids x).length := ⟨_, rfl⟩
    rw [← hK] at cs
    repeat ((conv => whnf); first | refine Br.t ?_ | refine Br.f ?_ | refine ⟨rfl, ?_⟩)
    conv => whnf
    refine ⟨⟨by omega, by simp; omega, by rw [ex]; rfl⟩, ?_⟩
    rw [ex]
    repeat ((conv => whnf); first | refine Br.t ?_ | refine Br.f ?_ | refine ⟨rfl, ?_⟩)
    conv => whnf
    refine CallW.mono cs ?_
    rintro r st' ⟨rfl, rfl⟩
    repeat ((conv => whnf); first | refine Br.t ?_ | refine Br.f ?_ | refine ⟨rfl, ?_⟩)
    conv => whnf
    refine ⟨(i + 1, X ++ setN x), ⟨by simp only; omega, by simp only [List.length_append]; omega, j3'⟩, by simp only; omega, ?_⟩
    refine Le.down (fun id => if id = 2 then K + 1 else 0) (fun id hid => by cases hid) ?_ ?_
    · simp [leS, sc1, V.up]
      exact i64_id (by omega) (by omega)
    · simp [upSt, Ob.up, wrO, secR, encSec, V.up.upAll, V.up, map_up_lift]
      omega
  · have g : i = L.length := by simp at g; omega
    subst g
    rw [List.drop_length, List.flatMap_nil, List.append_nil] at j3
    rw [← j3]
    repeat ((conv => whnf); first | refine Br.t ?_ | refine Br.f ?_ | refine ⟨rfl, ?_⟩)
    conv => whnf
    exact ⟨_, Le.slE (sl' := scL) (by simp [leS, sc1, scL]) rfl, rfl, rfl⟩
def sc2 (L : List Nat) (i : Nat) : List V := [.undef, .ptr 0 0 0 0, .undef, .ptr 1 0 0 0, .undef, .undef, .undef, .undef, .undef, .undef, .undef, .undef, .undef, .undef, .undef, .undef, .undef, .undef, .undef, .undef, .undef, .undef, .undef, .undef, .undef, .undef, .undef, .undef, .undef, .undef, .undef, .undef, .undef, .undef, .undef, .undef, .undef, .undef, .undef, .undef, .undef, .undef, .i (.sl (L.map w4)), .i (.int .i64 L.length), .i (.int .i64 i)] ++ List.replicate 7 .undef
set_option maxHeartbeats 8000000 in
theorem sc_loop2 (s : Sec) (L : List Nat) (hm : ∀ m ∈ L, m < 4294967296) (hl : L.length ≤ 64) (zs : List Nat) (hz : zs.length ≤ 100000) :
    W Tryd.prog G1 0 (.loop (lp Tryd.f71 2)) (fun e s' => e = .exit 4 ∧ s' = ⟨scL, wrO (secR s) 0 ((zs ++ L.flatMap setN).map by8)⟩) ⟨sc2 L 0, wrO (secR s) 0 (zs.map by8)⟩ := by
  refine W.weak (loop_ok (α := Nat × List Nat) (fun z => ⟨sc2 L z.1, wrO (secR s) 0 (z.2.map by8)⟩) (fun z => z.1 ≤ L.length ∧ z.2.length ≤ 100000 + 37 * z.1 ∧ z.2 ++ (L.drop z.1).flatMap setN = zs ++ L.flatMap setN) (fun z => L.length - z.1) (0, zs) ⟨Nat.zero_le _, by simp only; omega, rfl⟩ (Le.refl _ _) (fun z hz => wpx_ok (own := own0) _ _ _ ?_))
  obtain ⟨i, X⟩ := z
  obtain ⟨j1, j2, j3⟩ := hz
  simp only at j1 j2 j3
  dsimp only
  generalize zs ++ L.flatMap setN = LE at j3 ⊢
  repeat ((conv => whnf); first | refine Br.t ?_ | refine Br.f ?_ | refine ⟨rfl, ?_⟩)
  conv => whnf
  refine Br.mk (fun g => ?_) (fun g => ?_)
  · have g : i < L.length := by simp at g; omega
    have edr : L.drop i = L[i] :: L.drop (i + 1) := List.drop_eq_getElem_cons g
    have ex : (L.map w4).getD ((i : Int)).toNat [] = w4 (L[i]) := by rw [Int.toNat_natCast]; exact getD_enc g
    have hx := hm _ (List.getElem_mem g)
    rw [edr, List.flatMap_cons] at j3
    generalize L[i] = x at ex hx j3
    have hsl : (setN x).length ≤ 37 := setN_len
    have cs := upO (secR s) [] (set20 0 (X.map by8) x hx (by rw [List.length_map]; omega)) rfl rfl
    rw [← List.map_append] at cs
    have j3' : (X ++ setN x) ++ (L.drop (i + 1)).flatMap setN = LE := by rw [List.append_assoc]; exact j3
    obtain ⟨K, hK⟩ : ∃ K, K = (ids x).length := ⟨_, rfl⟩
    rw [← hK] at cs
    repeat ((conv => whnf); first | refine Br.t ?_ | refine Br.f ?_ | refine ⟨rfl, ?_⟩)
    conv => whnf
    refine ⟨⟨by omega, by simp; omega, by rw [ex]; rfl⟩, ?_⟩
    rw [ex]
    repeat ((conv => whnf); first | refine Br.t ?_ | refine Br.f ?_ | refine ⟨rfl, ?_⟩)
    conv => whnf
    refine CallW.mono cs ?_
    rintro r st' ⟨rfl, rfl⟩
    repeat ((conv => whnf); first | refine Br.t ?_ | refine Br.f ?_ | refine ⟨rfl, ?_⟩)
    conv => whnf
    refine ⟨(i + 1, X ++ setN x), ⟨by simp only; omega, by simp only [List.length_append]; omega, j3'⟩, by simp only; omega, ?_⟩
    refine Le.down (fun id => if id = 2 then K + 1 else 0) (fun id hid => by cases hid) ?_ ?_
    · simp [leS, sc2, V.up]
      exact i64_id (by omega) (by omega)
    · simp [upSt, Ob.up, wrO, secR, encSec, V.up.upAll, V.up, map_up_lift]
      omega
  · have g : i = L.length := by simp at g; omega
    subst g
    rw [List.drop_length, List.flatMap_nil, List.append_nil] at j3
    rw [← j3]
    repeat ((conv => whnf); first | refine Br.t ?_ | refine Br.f ?_ | refine ⟨rfl, ?_⟩)
    conv => whnf
    exact ⟨_, Le.slE (sl' := scL) (by simp [leS, sc2, scL]) rfl, rfl, rfl⟩
end Go.Proofs.YtdbmfnhbgacldaaDoor.Am

/- Contracts: a section's bytes, the justifications' bytes. -/
namespace Go.Proofs.YtdbmfnhbgacldaaDoor.Am
set_option autoImplicit false
set_option linter.unusedVariables false
set_option linter.unusedSimpArgs false
set_option maxRecDepth 100000
set_option pp.maxSteps 3000
set_option pp.proofs false
theorem secO {s : Sec} (h : SecOk s) : okS s := ⟨by have := h.a; omega, by have := h.b; omega, ⟨by have := h.n; omega, fun m hm => by have := h.h m hm; omega⟩, by have := h.c; omega, by have := h.e; omega, ⟨by have := h.n; have := h.l; omega, fun m hm => by have := h.v m hm; omega⟩⟩
set_option maxHeartbeats 8000000 in
theorem section71 (s : Sec) (hs : SecOk s) : CallW Tryd.prog G1 71 [secV s] [] (fun r st' => r = .i (.sl ((secN s).map by8)) ∧ st' = []) := by
  refine call_of_bodyF 0 (Nat.le_refl _) Tryd.func71 rfl (fun a w => Tryd.call71 a w) (wpx_ok (own := own0) _ _ _ ?_)
  have hok := secO hs
  obtain ⟨a, b, H, c, e, L⟩ := s
  obtain ⟨h1, h2, ⟨h3, h4⟩, h5, h6, h7, h8⟩ := hok
  simp only at h1 h2 h3 h4 h5 h6 h7 h8
  have hH : H.length ≤ 64 := hs.n.2
  have hL : L.length ≤ 64 := by have := hs.l; have : L.length = H.length := this; omega
  have l0 := sc_loop0 (a, b, H, c, e, L) [a, b, c, e] (by simp [h1, h2, h5, h6]) (by simp) [] (by simp)
  rw [List.nil_append] at l0
  obtain ⟨X0, hX0⟩ : ∃ X, X = [a, b, c, e].flatMap setN := ⟨_, rfl⟩
  have x0 : X0.length ≤ 37 * 4 := by rw [hX0]; exact flat37 _
  rw [← hX0] at l0
  have cn := upO (secR (a, b, H, c, e, L)) [] (num 0 (X0.map by8) H.length (by omega) (by rw [List.length_map]; omega)) rfl rfl
  rw [← List.map_append] at cn
  have pl := putN_len 4 H.length (by omega)
  have l1 := sc_loop1 (a, b, H, c, e, L) H h4 hH (X0 ++ putN H.length) (by rw [List.length_append]; omega)
  have f1 := flat37 H
  have f2 := flat37 L
  have l2 := sc_loop2 (a, b, H, c, e, L) L h8 hL (X0 ++ putN H.length ++ H.flatMap setN) (by rw [List.length_append, List.length_append]; omega)
  have hX : X0 ++ putN H.length ++ H.flatMap setN ++ L.flatMap setN = secN (a, b, H, c, e, L) := by
    rw [hX0, secN]; simp only [List.flatMap_cons, List.flatMap_nil, List.append_nil, List.append_assoc]
  rw [hX] at l2
  have hXl : (secN (a, b, H, c, e, L)).length ≤ 10000 := by rw [← hX]; simp only [List.length_append]; omega
  generalize secN (a, b, H, c, e, L) = X3 at l2 hXl ⊢
  generalize X0 ++ putN H.length ++ H.flatMap setN = X2 at l1 l2
  generalize X0 ++ putN H.length = X1 at cn l1
  have cb := upO (secR (a, b, H, c, e, L)) [] (bytes 0 (X3.map by8) (bytes_one _) (by rw [List.length_map]; omega)) rfl rfl
  repeat ((conv => whnf); first | refine Br.t ?_ | refine Br.f ?_ | refine ⟨rfl, ?_⟩)
  conv => whnf
  refine W.le (s' := ⟨sc0 [a, b, c, e] 0, wrO (secR (a, b, H, c, e, L)) 0 (([] : List Nat).map by8)⟩) ((Le.nilCell 1 0 0 1 rfl rfl rfl).trans (Le.slE (by simp [leS, sc0, w4, u32I]) rfl)) (W.mono l0 ?_)
  rintro e s ⟨rfl, rfl⟩
  repeat ((conv => whnf); first | refine Br.t ?_ | refine Br.f ?_ | refine ⟨rfl, ?_⟩)
  conv => whnf
  rw [show (((H.map w4).length : Nat) : Int) = ((H.length : Nat) : Int) by rw [List.length_map]]
  refine CallW.mono cn.glob ?_
  rintro r st' ⟨rfl, rfl⟩
  repeat ((conv => whnf); first | refine Br.t ?_ | refine Br.f ?_ | refine ⟨rfl, ?_⟩)
  conv => whnf
  refine W.le (s' := ⟨sc1 H 0, wrO (secR (a, b, H, c, e, L)) 0 (X1.map by8)⟩) (Le.down (fun id => if id = 2 then 1 else 0) (fun id hid => by cases hid) ?_ ?_) (W.mono l1 ?_)
  · simp [leS, sc1, V.up]
  · simp [upSt, Ob.up, wrO, secR, encSec, V.up.upAll, V.up, map_up_lift]
  rintro e s ⟨rfl, rfl⟩
  repeat ((conv => whnf); first | refine Br.t ?_ | refine Br.f ?_ | refine ⟨rfl, ?_⟩)
  conv => whnf
  refine W.le (s' := ⟨sc2 L 0, wrO (secR (a, b, H, c, e, L)) 0 (X2.map by8)⟩) (Le.slE (by simp [leS, sc2]) rfl) (W.mono l2 ?_)
  rintro e s ⟨rfl, rfl⟩
  repeat ((conv => whnf); first | refine Br.t ?_ | refine Br.f ?_ | refine ⟨rfl, ?_⟩)
  conv => whnf
  refine CallW.mono cb.glob ?_
  rintro r st' ⟨rfl, rfl⟩
  repeat ((conv => whnf); first | refine Br.t ?_ | refine Br.f ?_ | refine ⟨rfl, ?_⟩)
  conv => whnf
  refine fin (target := []) rfl (by simp) (by simp) rfl rfl
def js0 (J : List Jst) (i : Nat) : List V := [.undef, .undef, .undef, .ptr 0 0 0 0, .undef, .undef, .undef, .undef, .undef, .i (.sl (J.map encJ)), .i (.int .i64 J.length), .i (.int .i64 i)] ++ List.replicate 14 .undef
def js9 : List V := [.undef, .undef, .undef, .ptr 0 0 0 0] ++ List.replicate 22 .undef
def jstR (j : Jst) : Ob := .row 0 2 false [(encJ j).map .i]
theorem wr_cl' (k : Nat) (zs : List (List I)) (m : Nat) (hm : 1 < m) : ∀ o ∈ wr k zs, o.cl m := by
  intro o ho
  simp only [wr, List.mem_cons, List.not_mem_nil, or_false] at ho
  rcases ho with rfl | rfl
  · intro cs hcs; simp only [List.mem_singleton] at hcs; subst hcs; simp [V.cl, V.cl.clAll]; omega
  · exact cl_lift _ _ _ _ _
theorem flat10 : ∀ L : List Jst, (∀ j ∈ L, jstB j = true) → (L.flatMap jstN).length ≤ 10 * L.length
  | [], _ => Nat.le_refl _
  | x :: L, h => by
    have h1 := flat10 L (fun j hj => h j (by simp [hj]))
    obtain ⟨k1, k2, _⟩ := jstB_ok (h x (by simp))
    have p1 := putN_len 4 x.1.toNat (by omega)
    have p2 := putN_len 4 x.2.toNat (by omega)
    have h2 : (jstN x).length ≤ 10 := by
      unfold jstN; split
      · rw [List.length_append]; omega
      · omega
    simp only [List.flatMap_cons, List.length_append, List.length_cons]; omega
theorem mod32 {a : Int} (h0 : 0 ≤ a) (h1 : a < 4294967296) : (a % 4294967296).toNat = a.toNat := by rw [Int.emod_eq_of_lt h0 h1]
set_option maxHeartbeats 8000000 in
theorem js_loop (J : List Jst) (hj : ∀ j ∈ J, jstB j = true) (hl : J.length ≤ 16) (zs : List Nat) (hz : zs.length ≤ 1000) :
    W Tryd.prog G0 0 (.loop (lp Tryd.f72 0)) (fun e s' => e = .exit 0 ∧ s' = ⟨js9, wr 0 ((zs ++ J.flatMap jstN).map by8)⟩) ⟨js0 J 0, wr 0 (zs.map by8)⟩ := by
  refine W.weak (loop_ok (α := Nat × List Nat) (fun z => ⟨js0 J z.1, wr 0 (z.2.map by8)⟩) (fun z => z.1 ≤ J.length ∧ z.2.length ≤ 1000 + 10 * z.1 ∧ z.2 ++ (J.drop z.1).flatMap jstN = zs ++ J.flatMap jstN) (fun z => J.length - z.1) (0, zs) ⟨Nat.zero_le _, by simp only; omega, rfl⟩ (Le.refl _ _) (fun z hz => wpx_ok (own := own0) _ _ _ ?_))
  obtain ⟨i, X⟩ := z
  obtain ⟨j1, j2, j3⟩ := hz
  simp only at j1 j2 j3
  dsimp only
  generalize zs ++ J.flatMap jstN = LE at j3 ⊢
  repeat ((conv => whnf); first | refine Br.t ?_ | refine Br.f ?_ | refine ⟨rfl, ?_⟩)
  conv => whnf
  refine Br.mk (fun g => ?_) (fun g => ?_)
  · have g : i < J.length := by simp at g; omega
    have edr : J.drop i = J[i] :: J.drop (i + 1) := List.drop_eq_getElem_cons g
    have ex : (J.map encJ).getD ((i : Int)).toNat [] = encJ (J[i]) := by rw [Int.toNat_natCast]; exact getD_enc g
    obtain ⟨k1, k2, k3⟩ := jstB_ok (hj _ (List.getElem_mem g))
    rw [edr, List.flatMap_cons] at j3
    generalize J[i] = x at ex k1 k2 k3 j3
    obtain ⟨a, b⟩ := x
    simp only at k1 k2 k3
    have p1 := putN_len 4 a.toNat (by omega)
    have p2 := putN_len 4 b.toNat (by omega)
    have c1 := atW [jstR (a, b)] (numI 0 (X.map by8) a (by rw [List.length_map]; omega)) rfl rfl
    rw [mod32 (by omega) (by omega), ← List.map_append] at c1
    have c2 := atW [jstR (a, b)] (numI (1 + 0) ((X ++ putN a.toNat).map by8) b (by rw [List.length_map, List.length_append]; omega)) rfl rfl
    rw [mod32 (by omega) (by omega), ← List.map_append] at c2
    repeat ((conv => whnf); first | refine Br.t ?_ | refine Br.f ?_ | refine ⟨rfl, ?_⟩)
    conv => whnf
    refine ⟨⟨by omega, by simp; omega, by rw [ex]; rfl⟩, ?_⟩
    rw [ex]
    repeat ((conv => whnf); first | refine Br.t ?_ | refine Br.f ?_ | refine ⟨rfl, ?_⟩)
    conv => whnf
    refine CallW.mono c1 ?_
    rintro r st' ⟨rfl, rfl⟩
    repeat ((conv => whnf); first | refine Br.t ?_ | refine Br.f ?_ | refine ⟨rfl, ?_⟩)
    conv => whnf
    refine Br.mk (fun q => ?_) (fun q => ?_)
    · have q : a = 2 := by simpa using q
      have ej : jstN (a, b) = putN a.toNat ++ putN b.toNat := by unfold jstN; rw [if_pos q]
      repeat ((conv => whnf); first | refine Br.t ?_ | refine Br.f ?_ | refine ⟨rfl, ?_⟩)
      conv => whnf
      refine CallW.mono c2 ?_
      rintro r st' ⟨rfl, rfl⟩
      repeat ((conv => whnf); first | refine Br.t ?_ | refine Br.f ?_ | refine ⟨rfl, ?_⟩)
      conv => whnf
      refine ⟨(i + 1, X ++ putN a.toNat ++ putN b.toNat), ⟨by simp only; omega, by simp only [List.length_append]; omega, by rw [← j3, ej]; simp only [List.append_assoc]⟩, by simp only; omega, ?_⟩
      refine Le.back (fun id => if id = 1 then 2 else 0) (fun id hid => by cases hid) (Nat.zero_le _) rfl (wr_cl' _ _ _ (by simp [wr])) ?_ ?_
      · simp [leS, js0, V.up]
        exact i64_id (by omega) (by omega)
      · simp [upSt, Ob.up, wr, V.up.upAll, V.up, map_up_lift]
    · have q : ¬ a = 2 := by simpa using q
      have ej : jstN (a, b) = putN a.toNat := by unfold jstN; rw [if_neg q]
      repeat ((conv => whnf); first | refine Br.t ?_ | refine Br.f ?_ | refine ⟨rfl, ?_⟩)
      conv => whnf
      refine ⟨(i + 1, X ++ putN a.toNat), ⟨by simp only; omega, by simp only [List.length_append]; omega, by rw [← j3, ej]; simp only [List.append_assoc]⟩, by simp only; omega, ?_⟩
      refine Le.back (fun id => if id = 1 then 1 else 0) (fun id hid => by cases hid) (Nat.zero_le _) rfl (wr_cl' _ _ _ (by simp [wr])) ?_ ?_
      · simp [leS, js0, V.up]
        exact i64_id (by omega) (by omega)
      · simp [upSt, Ob.up, wr, V.up.upAll, V.up, map_up_lift]
  · have g : i = J.length := by simp at g; omega
    subst g
    rw [List.drop_length, List.flatMap_nil, List.append_nil] at j3
    rw [← j3]
    repeat ((conv => whnf); first | refine Br.t ?_ | refine Br.f ?_ | refine ⟨rfl, ?_⟩)
    conv => whnf
    exact ⟨⟨js9, wr 0 (X.map by8)⟩, Le.slE (by simp [leS, js0, js9]) rfl, rfl, rfl⟩
theorem justs72 (J : List Jst) (hj : ∀ j ∈ J, jstB j = true) (hl : J.length ≤ 16) : CallW Tryd.prog G0 72 [.i (.sl (J.map encJ))] [] (fun r st' => r = .i (.sl ((jstsN J).map by8)) ∧ st' = []) := by
  refine call_of_bodyF 0 (Nat.le_refl _) Tryd.func72 rfl (fun a w => Tryd.call72 a w) (wpx_ok (own := own0) _ _ _ ?_)
  have cn := (num 0 [] J.length (by omega) (by simp)).wr0
  rw [List.nil_append] at cn
  have pl := putN_len 4 J.length (by omega)
  have lo := js_loop J hj hl (putN J.length) (by omega)
  have f := flat10 J hj
  have e : putN J.length ++ J.flatMap jstN = jstsN J := rfl
  have hXl : (jstsN J).length ≤ 1000 := by rw [← e, List.length_append]; omega
  rw [e] at lo
  generalize jstsN J = X at lo hXl ⊢
  have cb := bytes 0 (X.map by8) (bytes_one _) (by rw [List.length_map]; omega)
  repeat ((conv => whnf); first | refine Br.t ?_ | refine Br.f ?_ | refine ⟨rfl, ?_⟩)
  conv => whnf
  rw [show (((J.map encJ).length : Nat) : Int) = ((J.length : Nat) : Int) by rw [List.length_map]]
  refine CallW.mono cn ?_
  rintro r st' ⟨rfl, rfl⟩
  repeat ((conv => whnf); first | refine Br.t ?_ | refine Br.f ?_ | refine ⟨rfl, ?_⟩)
  conv => whnf
  refine W.le (s' := ⟨js0 J 0, wr 0 ((putN J.length).map by8)⟩) (Le.down (fun id => if id = 1 then 1 else 0) (fun id hid => by cases hid) ?_ ?_) (W.mono lo ?_)
  · simp [leS, js0, V.up]
  · simp [upSt, Ob.up, wr, V.up.upAll, V.up, map_up_lift]
  rintro e s ⟨rfl, rfl⟩
  repeat ((conv => whnf); first | refine Br.t ?_ | refine Br.f ?_ | refine ⟨rfl, ?_⟩)
  conv => whnf
  refine CallW.mono cb ?_
  rintro r st' ⟨rfl, rfl⟩
  repeat ((conv => whnf); first | refine Br.t ?_ | refine Br.f ?_ | refine ⟨rfl, ?_⟩)
  conv => whnf
  refine fin (target := []) rfl (by simp) (by simp) rfl rfl
end Go.Proofs.YtdbmfnhbgacldaaDoor.Am

/- Contracts: SHA-256 of a link and a part. -/
namespace Go.Proofs.YtdbmfnhbgacldaaDoor.Am
set_option autoImplicit false
set_option linter.unusedVariables false
set_option linter.unusedSimpArgs false
set_option maxRecDepth 10000
set_option pp.maxSteps 3000
set_option pp.proofs false
/-- a digest on its way, whose bytes that are left lie in a row -/
def shRf (v : W8) (id off len n : Nat) : Ob := .row 0 10 false [[u32V v.1, u32V v.2.1, u32V v.2.2.1, u32V v.2.2.2.1, u32V v.2.2.2.2.1, u32V v.2.2.2.2.2.1, u32V v.2.2.2.2.2.2.1, u32V v.2.2.2.2.2.2.2, .ref id 3 off len, .i (.int .u64 (n : Nat))]]
set_option maxHeartbeats 4000000 in
theorem write_r (tz : Option (List I)) (ks : List Nat) (hk : ks.length = 64) (hkl : ∀ x ∈ ks, x < 4294967296) (h0 : W8) (hh : okW8 h0) (B : List Nat) (hB : ∀ b ∈ B, b < 256) (bs : List Nat) (hb : ∀ b ∈ bs, b < 256) (hl : (B ++ bs).length ≤ 1000000000) :
    CallW Tryd.prog (Gk tz ks) 92 [.ptr 0 0 0 0, .i (.sl (bs.map by8))] [shS ks h0 B] (fun r st' => r = .tup [] ∧ st' = [shRf (hashW ks h0 (B ++ bs) ((B ++ bs).length / 64)) 1 (64 * (((B ++ bs).drop (64 * (B.length / 64))).length / 64)) (((B ++ bs).drop (64 * (B.length / 64))).length % 64) (B ++ bs).length, .row 3 1 false (lift (((B ++ bs).drop (64 * (B.length / 64))).map by8))]) := by
  refine call_of_body Tryd.func92 rfl (fun a w => Tryd.call92 a w) (W.weak (wpx_ok (own := own0) _ _ _ ?_))
  have hl2 : (B ++ bs).length = B.length + bs.length := List.length_append
  obtain ⟨q, hq⟩ : ∃ q, q = B.length / 64 := ⟨_, rfl⟩
  obtain ⟨L, hL⟩ : ∃ L, L = B.drop (64 * q) := ⟨_, rfl⟩
  obtain ⟨A, hA⟩ : ∃ A, A = L ++ bs := ⟨_, rfl⟩
  have hAB : A = (B ++ bs).drop (64 * q) := by rw [hA, hL, hq]; exact drop_blocks B bs
  have hLl : L.length = B.length - 64 * q := by rw [hL]; simp
  have hAl : A.length = L.length + bs.length := by rw [hA]; simp
  have hAb : ∀ b ∈ A, b < 256 := fun b h => by
    rw [hAB] at h
    rcases List.mem_append.1 (List.mem_of_mem_drop h) with h | h
    · exact hB b h
    · exact hb b h
  have lo := wr_loop tz ks hk hkl h0 hh (B ++ bs).length A hAb (by omega) q (B ++ bs) hAB
  have hE : hashW ks h0 (B ++ bs) q = hashW ks h0 B q := hash_app ks h0 B bs q (by omega)
  rw [hE] at lo
  unfold shS
  rw [← hq, ← hL]
  have en : IntKind.u64.wrap ((B.length : Int) + IntKind.u64.wrap (((bs.map by8).length : Nat) : Int)) = (((B ++ bs).length : Nat) : Int) := by
    rw [List.length_map, hl2]
    simp [IntKind.wrap, IntKind.signed, IntKind.bits]; omega
  repeat ((conv => whnf); first | refine Br.t ?_ | refine Br.f ?_ | refine ⟨rfl, ?_⟩)
  conv => whnf
  rw [en]
  refine ⟨⟨one_by L, rfl, by show (0 + (lift (L.map by8)).length) * 1 ≤ _; simp [lift]; omega, len_mx (by simp [lift]; omega)⟩, ?_⟩
  repeat ((conv => whnf); first | refine Br.t ?_ | refine Br.f ?_ | refine ⟨rfl, ?_⟩)
  conv => whnf
  refine ⟨⟨one_by bs, by simp [lift], by show (0 + (lift (L.map by8)).length + (lift (bs.map by8)).length) * 1 ≤ _; simp [lift]; omega, len_mx (by simp [lift]; omega)⟩, ?_⟩
  repeat ((conv => whnf); first | refine Br.t ?_ | refine Br.f ?_ | refine ⟨rfl, ?_⟩)
  conv => whnf
  refine W.le (s' := ⟨wrS 0 A.length, wrR (hashW ks h0 B q) (B ++ bs).length A⟩) ((Le.blur 0 0 8 rfl rfl (by show 8 < 10; decide)).trans (Le.slE ?_ ?_)) (W.mono lo ?_)
  · simp [leS, mkS, wrS, lift]
    omega
  · show _ = [shU (hashW ks h0 B q) (B ++ bs).length, .row 3 1 false (lift (A.map by8))]
    rw [hA, List.map_append, lift_app]
    rfl
  rintro e s ⟨rfl, rfl⟩
  have e1 : (B ++ bs).length / 64 = q + A.length / 64 := by omega
  rw [e1, ← hAB]
  generalize hashW ks h0 (B ++ bs) (q + A.length / 64) = H
  generalize 64 * (A.length / 64) = off
  generalize A.length % 64 = len
  repeat ((conv => whnf); first | refine Br.t ?_ | refine Br.f ?_ | refine ⟨rfl, ?_⟩)
  conv => whnf
  refine ⟨_, Le.refl _ _, ?_⟩
  repeat ((conv => whnf); first | refine Br.t ?_ | refine Br.f ?_ | refine ⟨rfl, ?_⟩)
  conv => whnf
  exact rfl

end Go.Proofs.YtdbmfnhbgacldaaDoor.Am

/- Contracts: SHA-256 of a link and a part, all. -/
namespace Go.Proofs.YtdbmfnhbgacldaaDoor.Am
set_option autoImplicit false
set_option linter.unusedVariables false
set_option linter.unusedSimpArgs false
set_option maxRecDepth 100000
set_option pp.maxSteps 3000
set_option pp.proofs false
def lnkR (D : List Nat) : Ob := .row 1 1 false (lift (D.map by8))
def partR (b : List Nat) : Ob := .row 1 1 false [[.ref 0 1 0 32], [.i (.sl (b.map by8))]]
theorem lift_sf (L : List Nat) : ∀ cs ∈ lift (L.map by8), V.sf.sfAll cs = true := by
  intro cs h
  simp only [lift, List.mem_map] at h
  obtain ⟨_, ⟨x, _, rfl⟩, rfl⟩ := h
  rfl
theorem write_ref (tz : Option (List I)) (ks : List Nat) (hk : ks.length = 64) (hkl : ∀ x ∈ ks, x < 4294967296) (D : List Nat) (hD : D.length = 32) (hb : ∀ x ∈ D, x < 256) (ob : Ob) :
    CallW Tryd.prog (Gk tz ks) 92 [.ptr 3 0 0 0, .ref 0 1 0 32] [lnkR D, ob, b32R, shS ks H0W []] (fun r st' => r = .tup [] ∧ st' = [lnkR D, ob, b32R, shRf H0W 4 0 32 32, .row 3 1 false (lift (D.map by8))]) := by
  have h := write_r tz ks hk hkl H0W H0_ok [] (by simp) D hb (by simp [hD])
  have e1 : ([] ++ D : List Nat) = D := rfl
  have e2 : D.drop (64 * (([] : List Nat).length / 64)) = D := rfl
  rw [e1, e2, hD] at h
  change CallW _ _ _ _ _ (fun r st' => r = .tup [] ∧ st' = [shRf H0W 1 0 32 32, .row 3 1 false (lift (D.map by8))]) at h
  refine (CallW.rise (bargs := [.ptr 3 0 0 0, .ref 0 1 0 32]) (big := [lnkR D, ob, b32R, shS ks H0W []]) [3] [0] h rfl (by simp) (by simp) rfl (fun o ho => by simp only [List.mem_singleton] at ho; subst ho; exact shS_cl ks H0W [] 1) (by simp) rfl (fun j s u hs hu => ?_) (.inr (by
    rintro r st' ⟨rfl, rfl⟩
    refine ⟨rfl, fun o ho => ?_⟩
    simp only [List.mem_cons, List.not_mem_nil, or_false] at ho
    rcases ho with rfl | rfl
    · exact ⟨rfl, fun cs hcs => by simp only [List.mem_singleton] at hcs; subst hcs; rfl⟩
    · exact ⟨rfl, lift_sf D⟩))).mono ?_
  · match j with
    | 0 =>
      simp only [List.getElem?_cons_zero, Option.some.injEq] at hs hu
      subst hs hu
      exact .inl ⟨rfl, rfl⟩
    | 1 =>
      simp only [List.getElem?_cons_succ, List.getElem?_cons_zero, Option.some.injEq] at hs hu
      subst hs hu
      exact .inr ⟨0, 1, 0, 32, 1, false, D.map by8, rfl, by simp, rfl, by rw [List.drop_zero, List.take_of_length_le (by simp [hD])]⟩
    | j + 2 => simp at hs
  · rintro r st' ⟨r0, s0, ⟨rfl, rfl⟩, rfl, rfl⟩
    refine ⟨rfl, ?_⟩
    simp only [List.map_cons, List.map_nil]
    rw [show (Ob.row 3 1 false (lift (D.map by8))).ren (fm [3] ([lnkR D, ob, b32R, shS ks H0W []] : List Ob).length) = Ob.row 3 1 false (lift (D.map by8)) from ren_lift _ _ _ _ _]
    rfl
def o2L (i : Nat) : List V := [.undef, .undef, .ptr 2 1 0 0, .ptr 3 0 0 0, .undef, .undef, .undef, .ref 1 1 0 2, .i (.int .i64 (2 : Nat)), .i (.int .i64 i)] ++ List.replicate 9 .undef
def o2E : List V := [.undef, .undef, .ptr 2 1 0 0, .ptr 3 0 0 0] ++ List.replicate 15 .undef
theorem new_le4 {n : Nat} (sl : List V) (a b : Ob) (ks : List Nat) : Le n ⟨sl, [a, b, b32R, newB]⟩ ⟨sl, [a, b, b32R, shS ks H0W []]⟩ := by
  have h := Le.ndCell (n := n) (sl := sl) (st := [a, b, b32R, newB]) 3 0 8 rfl rfl rfl
  exact h
def b2 (D b : List Nat) (i : Nat) : List Nat := if i = 0 then [] else if i = 1 then D else D ++ b
theorem b32_cl' (m : Nat) : b32R.cl m := by
  intro cs hcs
  have := List.eq_of_mem_replicate hcs
  subst this
  rfl
theorem lnk_cl (D : List Nat) (m : Nat) : (lnkR D).cl m := cl_lift _ _ _ _ _
theorem part_cl (b : List Nat) (m : Nat) (hm : 0 < m) : (partR b).cl m := by
  intro cs hcs
  simp only [List.mem_cons, List.not_mem_nil, or_false] at hcs
  rcases hcs with rfl | rfl
  · simp [V.cl, V.cl.clAll]; omega
  · rfl
set_option maxHeartbeats 8000000 in
theorem of2_loop (tz : Option (List I)) (ks : List Nat) (hk : ks.length = 64) (hkl : ∀ x ∈ ks, x < 4294967296) (D : List Nat) (hD : D.length = 32) (hd : ∀ x ∈ D, x < 256) (b : List Nat) (hb : ∀ x ∈ b, x < 256) (hl : b.length ≤ 1000000) :
    W Tryd.prog (Gk tz ks) 2 (.loop (lp Tryd.f62 0)) (fun e s => e = .exit 0 ∧ s = ⟨o2E, [lnkR D, partR b, b32R, shS ks H0W (D ++ b)]⟩) ⟨o2L 0, [lnkR D, partR b, b32R, shS ks H0W []]⟩ := by
  refine W.weak (loop_ok (α := Nat) (fun i => ⟨o2L i, [lnkR D, partR b, b32R, shS ks H0W (b2 D b i)]⟩) (fun i => i ≤ 2) (fun i => 2 - i) 0 (Nat.zero_le _) (Le.refl _ _) (fun i hi => wpx_ok (own := own0) _ _ _ ?_))
  have hc : i = 0 ∨ i = 1 ∨ i = 2 := by omega
  rcases hc with rfl | rfl | rfl
  · have cw := write_ref tz ks hk hkl D hD hd (partR b)
    have e : shS ks H0W (b2 D b 0) = shS ks H0W [] := rfl
    rw [e]
    have hS : shS ks H0W D = shB H0W D 32 := by
      unfold shS
      rw [hD]; rfl
    repeat ((conv => whnf); first | refine Br.t ?_ | refine Br.f ?_ | refine ⟨rfl, ?_⟩)
    conv => whnf
    refine ⟨⟨by decide, by decide⟩, ?_⟩
    repeat ((conv => whnf); first | refine Br.t ?_ | refine Br.f ?_ | refine ⟨rfl, ?_⟩)
    conv => whnf
    refine CallW.mono cw ?_
    rintro r st' ⟨rfl, rfl⟩
    repeat ((conv => whnf); first | refine Br.t ?_ | refine Br.f ?_ | refine ⟨rfl, ?_⟩)
    conv => whnf
    refine ⟨1, by decide, by decide, ?_⟩
    refine Le.trans (s' := ⟨o2L 1, [lnkR D, partR b, b32R, shS ks H0W D] ++ [.dead]⟩) (Le.data 4 3 1 (D.map by8) rfl ?_ ?_) (Le.short (by show 2 ≤ 4; decide) rfl ?_)
    · simp [leS, o2L, V.dat]
      rfl
    · rw [hS]
      simp only [List.map_cons, List.map_nil, Ob.dat, V.dat.datAll, V.dat]
      simp [lnkR, partR, b32R, shB, u32V, Ob.dat, V.dat.datAll, V.dat]
      exact (List.take_of_length_le (by simp [hD])).symm
    · intro o ho
      simp only [List.mem_cons, List.not_mem_nil, or_false] at ho
      rcases ho with rfl | rfl | rfl | rfl
      · exact lnk_cl _ _
      · exact part_cl _ _ (by show 0 < 4; decide)
      · exact b32_cl' _
      · exact shS_cl _ _ _ _
  · have cw := write_at tz ks hk hkl H0W H0_ok D hd b hb (by rw [List.length_append]; omega) [lnkR D, partR b, b32R] []
    repeat ((conv => whnf); first | refine Br.t ?_ | refine Br.f ?_ | refine ⟨rfl, ?_⟩)
    conv => whnf
    refine ⟨⟨by decide, by decide⟩, ?_⟩
    repeat ((conv => whnf); first | refine Br.t ?_ | refine Br.f ?_ | refine ⟨rfl, ?_⟩)
    conv => whnf
    refine CallW.mono cw ?_
    rintro r st' ⟨rfl, rfl⟩
    repeat ((conv => whnf); first | refine Br.t ?_ | refine Br.f ?_ | refine ⟨rfl, ?_⟩)
    conv => whnf
    exact ⟨2, by decide, by decide, Le.slE (by simp [leS, o2L]; rfl) rfl⟩
  · repeat ((conv => whnf); first | refine Br.t ?_ | refine Br.f ?_ | refine ⟨rfl, ?_⟩)
    conv => whnf
    exact ⟨_, Le.slE (sl' := o2E) (by simp [leS, o2L, o2E]) rfl, rfl, rfl⟩
theorem fin2 {o1 o2 : Ob} {rest : List Ob} {m : Nat} (h1 : o1.cl 2) (h2 : o2.cl 2) : ∀ o ∈ (o1 :: o2 :: rest).take 2, o.cl 2 := by
  intro o ho
  simp only [List.take_succ_cons, List.take_zero, List.mem_cons, List.not_mem_nil, or_false] at ho
  rcases ho with rfl | rfl
  · exact h1
  · exact h2
set_option maxHeartbeats 8000000 in
theorem of2_ok (tz : Option (List I)) (ks : List Nat) (hk : ks.length = 64) (hkl : ∀ x ∈ ks, x < 4294967296) (D : List Nat) (hD : D.length = 32) (hd : ∀ x ∈ D, x < 256) (b : List Nat) (hb : ∀ x ∈ b, x < 256) (hl : b.length ≤ 1000000) :
    CallW Tryd.prog (Gk tz ks) 62 [.ref 1 1 0 2] [lnkR D, partR b] (fun r st' => r = dArr (shaW ks H0W (D ++ b)) ∧ st' = [lnkR D, partR b]) := by
  refine call_of_bodyF 2 (Nat.le_refl _) Tryd.func62 rfl (fun a w => Tryd.call62 a w) (wpx_ok (own := own0) _ _ _ ?_)
  have lo := of2_loop tz ks hk hkl D hD hd b hb hl
  have hdb : ∀ x ∈ D ++ b, x < 256 := fun x hx => by
    rcases List.mem_append.1 hx with h | h
    · exact hd x h
    · exact hb x h
  have csm := sum_at tz ks hk hkl H0W H0_ok (D ++ b) hdb (by rw [List.length_append]; omega) [lnkR D, partR b, b32R] []
  have hE : (shaW ks H0W (D ++ b)).length = 32 := digL_len _ _
  generalize shaW ks H0W (D ++ b) = E at csm hE ⊢
  obtain ⟨e0, e1, e2, e3, e4, e5, e6, e7, e8, e9, e10, e11, e12, e13, e14, e15, e16, e17, e18, e19, e20, e21, e22, e23, e24, e25, e26, e27, e28, e29, e30, e31, rfl⟩ := list32 hE
  repeat ((conv => whnf); first | refine Br.t ?_ | refine Br.f ?_ | refine ⟨rfl, ?_⟩)
  conv => whnf
  refine (CallW.fresh2 _ new_ok.glob rfl).mono ?_
  rintro r st' ⟨rfl, rfl⟩
  repeat ((conv => whnf); first | refine Br.t ?_ | refine Br.f ?_ | refine ⟨rfl, ?_⟩)
  conv => whnf
  refine W.le (s' := ⟨o2L 0, [lnkR D, partR b, b32R, shS ks H0W []]⟩) ((Le.slE (sl' := o2L 0) (st' := [lnkR D, partR b, b32R, newB]) (by simp [leS, o2L]; try rfl) rfl).trans (new_le4 _ _ _ ks)) (W.mono lo ?_)
  rintro e s ⟨rfl, rfl⟩
  repeat ((conv => whnf); first | refine Br.t ?_ | refine Br.f ?_ | refine ⟨rfl, ?_⟩)
  conv => whnf
  refine CallW.mono csm ?_
  rintro r st' ⟨rfl, rfl⟩
  repeat ((conv => whnf); first | refine Br.t ?_ | refine Br.f ?_ | refine ⟨rfl, ?_⟩)
  conv => whnf
  refine ⟨⟨rfl, rfl, rfl, rfl, rfl⟩, ?_⟩
  repeat ((conv => whnf); first | refine Br.t ?_ | refine Br.f ?_ | refine ⟨rfl, ?_⟩)
  conv => whnf
  refine ⟨⟨rfl, rfl, rfl⟩, ?_⟩
  repeat ((conv => whnf); first | refine Br.t ?_ | refine Br.f ?_ | refine ⟨rfl, ?_⟩)
  conv => whnf
  exact ⟨by show 2 ≤ 4; decide, rfl, fin2 (m := 0) (lnk_cl _ _) (part_cl _ _ (by decide)), rfl, rfl⟩
end Go.Proofs.YtdbmfnhbgacldaaDoor.Am

/- Contracts: a part and its link are written. -/
namespace Go.Proofs.YtdbmfnhbgacldaaDoor.Am
set_option autoImplicit false
set_option linter.unusedVariables false
set_option linter.unusedSimpArgs false
set_option maxRecDepth 100000
set_option pp.maxSteps 3000
set_option pp.proofs false
theorem wr_sf (k : Nat) (L : List Nat) : ∀ o ∈ wr k (L.map by8), o.sf := by
  intro o ho
  simp only [wr, List.mem_cons, List.not_mem_nil, or_false] at ho
  rcases ho with rfl | rfl
  · exact ⟨rfl, fun cs hcs => by simp only [List.mem_singleton] at hcs; subst hcs; rfl⟩
  · exact ⟨rfl, lift_sf L⟩
theorem rawL (k : Nat) (Y D : List Nat) (hD : D.length = 32) (hl : Y.length ≤ 1000000) (post : List Ob) :
    CallW Tryd.prog G0 18 [.ptr 0 0 0 0, .ref 2 1 0 32] (wr k (Y.map by8) ++ lnkR D :: post) (fun r st' => r = .tup [] ∧ st' = wr (1 + k) ((Y ++ D).map by8) ++ lnkR D :: post) := by
  have h := raw k (Y.map by8) (D.map by8) (bytes_one _) (by simp [hD]; omega)
  rw [← List.map_append] at h
  refine (CallW.rise (bargs := [.ptr 0 0 0 0, .ref 2 1 0 32]) (big := wr k (Y.map by8) ++ lnkR D :: post) [0, 1] [2] h rfl (by decide) (by simp [wr]) ?_ (wr_cl _ _) (by simp) rfl (fun j s u hs hu => ?_) (.inr (by
    rintro r st' ⟨rfl, rfl⟩
    exact ⟨rfl, wr_sf _ _⟩))).mono ?_
  · rw [wr_ren _ rfl rfl]
    rfl
  · match j with
    | 0 =>
      simp only [List.getElem?_cons_zero, Option.some.injEq] at hs hu
      subst hs hu
      exact .inl ⟨rfl, rfl⟩
    | 1 =>
      simp only [List.getElem?_cons_succ, List.getElem?_cons_zero, Option.some.injEq] at hs hu
      subst hs hu
      exact .inr ⟨2, 1, 0, 32, 1, false, D.map by8, rfl, by simp, rfl, by rw [List.drop_zero, List.take_of_length_le (by simp [hD])]⟩
    | j + 2 => simp at hs
  · rintro r st' ⟨r0, s0, ⟨rfl, rfl⟩, rfl, rfl⟩
    rw [wr_ren _ rfl rfl]
    exact ⟨rfl, by simp [putAll, wr]⟩
def partR2 (b : List Nat) : Ob := .row 1 1 false [[.ref 2 1 0 32], [.i (.sl (b.map by8))]]
theorem of2_at (tz : Option (List I)) (D : List Nat) (hD : D.length = 32) (hd : ∀ x ∈ D, x < 256) (b : List Nat) (hb : ∀ x ∈ b, x < 256) (hl : b.length ≤ 1000000) (k : Nat) (zs : List (List I)) :
    CallW Tryd.prog (Gk tz KEYS) 62 [.ref 3 1 0 2] (wr k zs ++ [lnkR D, partR2 b]) (fun r st' => r = dArr (lnk D b) ∧ st' = wr k zs ++ [lnkR D, partR2 b]) := by
  have h := of2_ok tz KEYS KEYS_len KEYS_lt D hD hd b hb hl
  refine (CallW.rise (bargs := [.ref 3 1 0 2]) (big := wr k zs ++ [lnkR D, partR2 b]) [2, 3] [] h rfl (by decide) (by simp [wr]) ?_ (fun o ho => ?_) (by simp) rfl (fun j s u hs hu => ?_) (.inl rfl)).mono ?_
  · simp only [List.map_cons, List.map_nil, lnkR, ren_lift]
    rfl
  · simp only [List.mem_cons, List.not_mem_nil, or_false] at ho
    rcases ho with rfl | rfl
    · exact lnk_cl _ _
    · exact part_cl _ _ (by show 0 < 2; decide)
  · match j with
    | 0 =>
      simp only [List.getElem?_cons_zero, Option.some.injEq] at hs hu
      subst hs hu
      exact .inl ⟨rfl, rfl⟩
    | j + 1 => simp at hs
  · rintro r st' ⟨r0, s0, ⟨rfl, rfl⟩, rfl, rfl⟩
    refine ⟨ren_cl0 _ _ (cl_b 0 _), ?_⟩
    simp only [List.map_cons, List.map_nil, lnkR, ren_lift]
    rfl
theorem wl_cl (k : Nat) (zs : List (List I)) (D : List Nat) (m : Nat) (hm : 1 < m) : ∀ o ∈ wr k zs ++ [lnkR D], o.cl m := by
  intro o ho
  rcases List.mem_append.1 ho with h | h
  · exact wr_cl' k zs m hm o h
  · simp only [List.mem_singleton] at h; subst h; exact lnk_cl _ _
set_option maxHeartbeats 8000000 in
theorem put70 (tz : Option (List I)) (k : Nat) (Y b D : List Nat) (hD : D.length = 32) (hd : ∀ x ∈ D, x < 256) (hb : ∀ x ∈ b, x < 256) (hl : b.length ≤ 100000) (hY : Y.length ≤ 500000) :
    CallW Tryd.prog (Gk tz KEYS) 70 [.i (.sl (b.map by8)), .ptr 0 0 0 0, .ptr 2 1 0 0] (wr k (Y.map by8) ++ [lnkR D]) (fun r st' => r = .tup [] ∧ st' = wr (1 + (1 + k)) ((Y ++ b ++ lnk D b).map by8) ++ [lnkR (lnk D b)]) := by
  refine call_of_bodyF 3 (Nat.le_refl _) Tryd.func70 rfl (fun a w => Tryd.call70 a w) (wpx_ok (own := fun t => t == 8) _ _ _ ?_)
  have c1 := atW [lnkR D] (raw k (Y.map by8) (b.map by8) (bytes_one _) (by rw [List.length_map, List.length_map]; omega)) rfl rfl
  rw [← List.map_append] at c1
  have c2 := of2_at tz D hD hd b hb (by omega) (1 + k) ((Y ++ b).map by8)
  have hE := lnk_len D b
  have hDl : ((lift (D.map by8)).take 32).length = 32 := by simp [lift, hD]
  generalize lnk D b = E at c2 hE ⊢
  have c3 := rawL (1 + k) (Y ++ b) E hE (by rw [List.length_append]; omega) [partR2 b]
  obtain ⟨e0, e1, e2, e3, e4, e5, e6, e7, e8, e9, e10, e11, e12, e13, e14, e15, e16, e17, e18, e19, e20, e21, e22, e23, e24, e25, e26, e27, e28, e29, e30, e31, rfl⟩ := list32 hE
  repeat ((conv => whnf); first | refine Br.t ?_ | refine Br.f ?_ | refine ⟨rfl, ?_⟩)
  conv => whnf
  refine CallW.mono c1.glob ?_
  rintro r st' ⟨rfl, rfl⟩
  repeat ((conv => whnf); first | refine Br.t ?_ | refine Br.f ?_ | refine ⟨rfl, ?_⟩)
  conv => whnf
  refine ⟨⟨rfl, rfl, hDl, by decide, by decide, by decide, by decide, by decide⟩, ?_⟩
  repeat ((conv => whnf); first | refine Br.t ?_ | refine Br.f ?_ | refine ⟨rfl, ?_⟩)
  conv => whnf
  refine CallW.mono c2 ?_
  rintro r st' ⟨rfl, rfl⟩
  repeat ((conv => whnf); first | refine Br.t ?_ | refine Br.f ?_ | refine ⟨rfl, ?_⟩)
  conv => whnf
  refine ⟨⟨rfl, rfl, by simp [lift, hD], rfl, rfl⟩, ?_⟩
  repeat ((conv => whnf); first | refine Br.t ?_ | refine Br.f ?_ | refine ⟨rfl, ?_⟩)
  conv => whnf
  refine ⟨⟨rfl, rfl, rfl, by decide, by decide, by decide, by decide, by decide⟩, ?_⟩
  repeat ((conv => whnf); first | refine Br.t ?_ | refine Br.f ?_ | refine ⟨rfl, ?_⟩)
  conv => whnf
  refine CallW.mono c3.glob ?_
  rintro r st' ⟨rfl, rfl⟩
  repeat ((conv => whnf); first | refine Br.t ?_ | refine Br.f ?_ | refine ⟨rfl, ?_⟩)
  conv => whnf
  exact ⟨by show 3 ≤ 4; decide, rfl, wl_cl _ _ _ 3 (by decide), rfl, rfl⟩
end Go.Proofs.YtdbmfnhbgacldaaDoor.Am

/- Contracts: a certificate's bytes. -/
namespace Go.Proofs.YtdbmfnhbgacldaaDoor.Am
set_option autoImplicit false
set_option linter.unusedVariables false
set_option linter.unusedSimpArgs false
set_option maxRecDepth 100000
set_option pp.maxSteps 3000
set_option pp.proofs false
theorem upO0 {G : Gl} {f : FuncId} {args : List V} {v : V} {k' : Nat} {zs' : List (List I)} (o d : Ob) (h : CallW Tryd.prog G f args wr0 (fun r st' => r = v ∧ st' = wr k' zs')) (ha : V.cl.clAll 1 args = true) (hv : V.cl 0 v = true) :
    CallW Tryd.prog G f (V.ren.renAll (fm [1] 3) args) [o, .row 0 1 false [[.nils]], d] (fun r st' => r = v ∧ st' = wrU o d k' zs') := by
  refine (CallW.rise (bargs := V.ren.renAll (fm [1] 3) args) (big := [o, .row 0 1 false [[.nils]], d]) [1] [] h rfl (by decide) (by simp) rfl (by simp [wr0, Ob.cl, V.cl.clAll, V.cl]) (by simp) (renAll_len _ _) (args_ren ha) (.inl rfl)).mono ?_
  rintro r st' ⟨r0, s0, ⟨rfl, rfl⟩, rfl, rfl⟩
  refine ⟨ren_cl0 _ _ hv, ?_⟩
  simp only [wr, wrU, List.map_cons, List.map_nil, ren_lift]
  rfl
theorem upL {G : Gl} {f : FuncId} {args : List V} {v : V} {k k' : Nat} {zs zs' : List (List I)} {D D' : List Nat} (o d : Ob) (post : List Ob) (h : CallW Tryd.prog G f args (wr k zs ++ [lnkR D]) (fun r st' => r = v ∧ st' = wr k' zs' ++ [lnkR D'])) (ha : V.cl.clAll 3 args = true) (hv : V.cl 0 v = true) :
    CallW Tryd.prog G f (V.ren.renAll (fm [1, 3, 4] (wrU o d k zs ++ lnkR D :: post).length) args) (wrU o d k zs ++ lnkR D :: post) (fun r st' => r = v ∧ st' = wrU o d k' zs' ++ lnkR D' :: post) := by
  refine (CallW.rise (bargs := V.ren.renAll (fm [1, 3, 4] (wrU o d k zs ++ lnkR D :: post).length) args) (big := wrU o d k zs ++ lnkR D :: post) [1, 3, 4] [] h rfl (by decide) (by simp [wrU]) ?_ (wl_cl _ _ _ 3 (by decide)) (by simp) (renAll_len _ _) (args_ren ha) (.inl rfl)).mono ?_
  · simp only [wr, lnkR, List.map_cons, List.map_nil, ren_lift, List.cons_append, List.nil_append]
    rfl
  · rintro r st' ⟨r0, s0, ⟨rfl, rfl⟩, rfl, rfl⟩
    refine ⟨ren_cl0 _ _ hv, ?_⟩
    simp only [wr, wrU, lnkR, List.map_cons, List.map_nil, ren_lift, List.cons_append, List.nil_append]
    show putAll _ [1, 3, 4] [Ob.row 0 1 false [[V.ref 3 (k' + 1) 0 zs'.length]], Ob.row (k' + 1) 1 false (lift zs'), Ob.row 1 1 false (lift (D'.map by8))] = _
    simp [putAll]
theorem put_at (tz : Option (List I)) (o d : Ob) (post : List Ob) (k : Nat) (Y b D : List Nat) (hD : D.length = 32) (hd : ∀ x ∈ D, x < 256) (hb : ∀ x ∈ b, x < 256) (hl : b.length ≤ 100000) (hY : Y.length ≤ 500000) :
    CallW Tryd.prog (Gk tz KEYS) 70 [.i (.sl (b.map by8)), .ptr 1 0 0 0, .ptr 4 1 0 0] (wrU o d k (Y.map by8) ++ lnkR D :: post) (fun r st' => r = .tup [] ∧ st' = wrU o d (1 + (1 + k)) ((Y ++ b ++ lnk D b).map by8) ++ lnkR (lnk D b) :: post) :=
  upL o d post (put70 tz k Y b D hD hd hb hl hY) rfl rfl
theorem secN_byte (s : Sec) : ∀ x ∈ secN s, x < 256 := by
  intro x hx
  simp only [secN, List.mem_append, List.mem_flatMap] at hx
  rcases hx with hx | hx | hx | hx | hx | ⟨m, _, hx⟩ | ⟨m, _, hx⟩
  · exact setN_byte _ x hx
  · exact setN_byte _ x hx
  · exact setN_byte _ x hx
  · exact setN_byte _ x hx
  · exact putN_byte _ x hx
  · exact setN_byte _ x hx
  · exact setN_byte _ x hx
theorem jstsN_byte (l : List Jst) : ∀ x ∈ jstsN l, x < 256 := by
  intro x hx
  simp only [jstsN, List.mem_append, List.mem_flatMap] at hx
  rcases hx with hx | ⟨j, _, hx⟩
  · exact putN_byte _ x hx
  · unfold jstN at hx
    split at hx
    · rcases List.mem_append.1 hx with hx | hx <;> exact putN_byte _ x hx
    · exact putN_byte _ x hx
theorem secN_len {s : Sec} (h : SecOk s) : (secN s).length ≤ 5000 := by
  have h1 := flat37 s.2.2.1
  have h2 := flat37 s.2.2.2.2.2
  have := h.n; have := h.l
  have p := putN_len 4 s.2.2.1.length (by omega)
  have q1 : (setN s.1).length ≤ 37 := setN_len
  have q2 : (setN s.2.1).length ≤ 37 := setN_len
  have q3 : (setN s.2.2.2.1).length ≤ 37 := setN_len
  have q4 : (setN s.2.2.2.2.1).length ≤ 37 := setN_len
  simp only [secN, List.length_append]; omega
theorem jstsN_len {l : List Jst} (h : ∀ j ∈ l, jstB j = true) (hl : l.length ≤ 16) : (jstsN l).length ≤ 200 := by
  have p := putN_len 4 l.length (by omega)
  have f := flat10 l h
  simp only [jstsN, List.length_append]; omega
def cwL (ss : List Sec) (i : Nat) : List V := [.undef, .ptr 0 0 0 0, .undef, .undef, .undef, .undef, .ptr 1 0 0 0, .undef, .fn (.func 70) [] [.ptr 1 0 0 0, .ptr 4 1 0 0], .undef, .undef, .undef, .undef, .undef, .undef, .undef, .undef, .undef, .undef, .undef, .undef, .undef, .undef, .undef, .undef, .undef, .undef, .undef, .undef, .undef, .undef, .undef, .i (.sl (ss.map encSec)), .i (.int .i64 ss.length), .i (.int .i64 i)] ++ List.replicate 14 .undef
def cwE : List V := [.undef, .ptr 0 0 0 0, .undef, .undef, .undef, .undef, .ptr 1 0 0 0, .undef, .fn (.func 70) [] [.ptr 1 0 0 0, .ptr 4 1 0 0]] ++ List.replicate 40 .undef
theorem wo_cl (d0 d1 d2 d3 d4 d5 d6 d7 d8 d9 d10 d11 d12 d13 d14 d15 d16 d17 d18 d19 d20 d21 d22 d23 d24 d25 d26 d27 d28 d29 d30 d31 : Nat) (ss : List Sec) (js : List Jst) (k : Nat) (zs : List (List I)) (D : List Nat) (m : Nat) (hm : 3 < m) : ∀ o ∈ wrU (ctR ⟨l32 d0 d1 d2 d3 d4 d5 d6 d7 d8 d9 d10 d11 d12 d13 d14 d15 d16 d17 d18 d19 d20 d21 d22 d23 d24 d25 d26 d27 d28 d29 d30 d31, ss, js⟩) .dead k zs ++ [lnkR D], o.cl m := by
  intro o ho
  simp only [wrU, List.cons_append, List.nil_append, List.mem_cons, List.not_mem_nil, or_false] at ho
  rcases ho with rfl | rfl | rfl | rfl | rfl
  · exact ctR_cl d0 d1 d2 d3 d4 d5 d6 d7 d8 d9 d10 d11 d12 d13 d14 d15 d16 d17 d18 d19 d20 d21 d22 d23 d24 d25 d26 d27 d28 d29 d30 d31 ss js m _ (List.mem_singleton.2 rfl)
  · intro cs hcs; simp only [List.mem_singleton] at hcs; subst hcs; simp [V.cl, V.cl.clAll]; omega
  · trivial
  · exact cl_lift _ _ _ _ _
  · exact lnk_cl _ _
set_option maxHeartbeats 8000000 in
theorem cw_loop (d0 d1 d2 d3 d4 d5 d6 d7 d8 d9 d10 d11 d12 d13 d14 d15 d16 d17 d18 d19 d20 d21 d22 d23 d24 d25 d26 d27 d28 d29 d30 d31 : Nat) (ss : List Sec) (js : List Jst) (hs : ∀ x ∈ ss, SecOk x) (hl : ss.length ≤ 16) (Y0 D0 : List Nat) (hY : Y0.length ≤ 1000) (hD0 : D0.length = 32) (hd0 : ∀ x ∈ D0, x < 256) :
    W Tryd.prog (Gk (some tz) KEYS) 0 (.loop (lp Tryd.f45 0)) (fun e s' => e = .exit 0 ∧ s' = ⟨cwE, wrU (ctR ⟨l32 d0 d1 d2 d3 d4 d5 d6 d7 d8 d9 d10 d11 d12 d13 d14 d15 d16 d17 d18 d19 d20 d21 d22 d23 d24 d25 d26 d27 d28 d29 d30 d31, ss, js⟩) .dead 0 ((Y0 ++ chainN D0 (ss.map secN)).map by8) ++ [lnkR (lnkS D0 (ss.map secN))]⟩) ⟨cwL ss 0, wrU (ctR ⟨l32 d0 d1 d2 d3 d4 d5 d6 d7 d8 d9 d10 d11 d12 d13 d14 d15 d16 d17 d18 d19 d20 d21 d22 d23 d24 d25 d26 d27 d28 d29 d30 d31, ss, js⟩) .dead 0 (Y0.map by8) ++ [lnkR D0]⟩ := by
  refine W.weak (loop_ok (α := Nat × List Nat × List Nat) (fun z => ⟨cwL ss z.1, wrU (ctR ⟨l32 d0 d1 d2 d3 d4 d5 d6 d7 d8 d9 d10 d11 d12 d13 d14 d15 d16 d17 d18 d19 d20 d21 d22 d23 d24 d25 d26 d27 d28 d29 d30 d31, ss, js⟩) .dead 0 (z.2.1.map by8) ++ [lnkR z.2.2]⟩)
    (fun z => z.1 ≤ ss.length ∧ z.2.1.length ≤ 1000 + 5032 * z.1 ∧ z.2.2.length = 32 ∧ (∀ x ∈ z.2.2, x < 256) ∧ z.2.1 ++ chainN z.2.2 ((ss.drop z.1).map secN) = Y0 ++ chainN D0 (ss.map secN) ∧ lnkS z.2.2 ((ss.drop z.1).map secN) = lnkS D0 (ss.map secN)) (fun z => ss.length - z.1) (0, Y0, D0) ⟨Nat.zero_le _, by simp only; omega, hD0, hd0, rfl, rfl⟩ (Le.refl _ _) (fun z hz => wpx_ok (own := own0) _ _ _ ?_))
  obtain ⟨i, Y, D⟩ := z
  obtain ⟨j1, j2, j3, j4, j5, j6⟩ := hz
  simp only at j1 j2 j3 j4 j5 j6
  dsimp only
  generalize Y0 ++ chainN D0 (ss.map secN) = LE at j5 ⊢
  generalize lnkS D0 (ss.map secN) = DE at j6 ⊢
  repeat ((conv => whnf); first | refine Br.t ?_ | refine Br.f ?_ | refine ⟨rfl, ?_⟩)
  conv => whnf
  refine Br.mk (fun g => ?_) (fun g => ?_)
  · have g : i < ss.length := by simp at g; omega
    have edr : ss.drop i = ss[i] :: ss.drop (i + 1) := List.drop_eq_getElem_cons g
    have ex : (ss.map encSec).getD ((i : Int)).toNat [] = encSec (ss[i]) := by rw [Int.toNat_natCast]; exact getD_enc g
    have hx := hs _ (List.getElem_mem g)
    rw [edr, List.map_cons, chainN] at j5
    rw [edr, List.map_cons, lnkS] at j6
    generalize ss[i] = x at ex hx j5 j6
    have cs := (section71 x hx).gmono (G1k KEYS)
    have hbl := secN_len hx
    have cp := put_at (some tz) (ctR ⟨l32 d0 d1 d2 d3 d4 d5 d6 d7 d8 d9 d10 d11 d12 d13 d14 d15 d16 d17 d18 d19 d20 d21 d22 d23 d24 d25 d26 d27 d28 d29 d30 d31, ss, js⟩) .dead [secR x] 0 Y (secN x) D j3 j4 (secN_byte x) (by omega) (by omega)
    have hE := lnk_len D (secN x)
    have hEb := lnk_byte D (secN x)
    generalize lnk D (secN x) = E at cp hE hEb j5 j6
    generalize secN x = b at cs hbl cp j5
    repeat ((conv => whnf); first | refine Br.t ?_ | refine Br.f ?_ | refine ⟨rfl, ?_⟩)
    conv => whnf
    refine ⟨⟨by omega, by simp; omega, by rw [ex]; rfl⟩, ?_⟩
    rw [ex]
    repeat ((conv => whnf); first | refine Br.t ?_ | refine Br.f ?_ | refine ⟨rfl, ?_⟩)
    conv => whnf
    refine CallW.mono (cs.pure _ rfl rfl) ?_
    rintro r st' ⟨rfl, rfl⟩
    repeat ((conv => whnf); first | refine Br.t ?_ | refine Br.f ?_ | refine ⟨rfl, ?_⟩)
    conv => whnf
    refine CallW.mono cp ?_
    rintro r st' ⟨rfl, rfl⟩
    repeat ((conv => whnf); first | refine Br.t ?_ | refine Br.f ?_ | refine ⟨rfl, ?_⟩)
    conv => whnf
    refine ⟨(i + 1, Y ++ b ++ E, E), ⟨by simp only; omega, by simp only [List.length_append]; omega, hE, hEb, by rw [← j5]; simp only [List.append_assoc], j6⟩, by simp only; omega, ?_⟩
    refine Le.back (fun id => if id = 3 then 2 else 0) (fun id hid => by cases hid) (Nat.zero_le _) rfl (wo_cl d0 d1 d2 d3 d4 d5 d6 d7 d8 d9 d10 d11 d12 d13 d14 d15 d16 d17 d18 d19 d20 d21 d22 d23 d24 d25 d26 d27 d28 d29 d30 d31 ss js _ _ _ _ (by simp [wrU])) ?_ ?_
    · simp [leS, cwL, V.up, V.up.upAll]
      exact i64_id (by omega) (by omega)
    · simp [upSt, Ob.up, wrU, lnkR, ctR, encCt, l32, encSec, V.up.upAll, V.up, map_up_lift]
  · have g : i = ss.length := by simp at g; omega
    subst g
    rw [List.drop_length, List.map_nil, chainN, List.append_nil] at j5
    rw [List.drop_length, List.map_nil, lnkS] at j6
    rw [← j5, ← j6]
    repeat ((conv => whnf); first | refine Br.t ?_ | refine Br.f ?_ | refine ⟨rfl, ?_⟩)
    conv => whnf
    exact ⟨_, Le.slE (sl' := cwE) (by simp [leS, cwL, cwE]) rfl, rfl, rfl⟩
end Go.Proofs.YtdbmfnhbgacldaaDoor.Am

/- Contracts: a certificate's bytes, all. -/
namespace Go.Proofs.YtdbmfnhbgacldaaDoor.Am
set_option autoImplicit false
set_option linter.unusedVariables false
set_option linter.unusedSimpArgs false
set_option maxRecDepth 100000
set_option pp.maxSteps 3000
set_option pp.proofs false
theorem chain_len : ∀ (L : List Sec) (D : List Nat), (∀ s ∈ L, SecOk s) → (chainN D (L.map secN)).length ≤ 5032 * L.length
  | [], D, _ => by simp [chainN]
  | x :: L, D, h => by
    have h1 := chain_len L (lnk D (secN x)) (fun s hs => h s (by simp [hs]))
    have h2 := secN_len (h x (by simp))
    have h3 := lnk_len D (secN x)
    simp only [List.map_cons, chainN, List.length_append, List.length_cons]; omega
theorem lnkS_ok : ∀ (L : List (List Nat)) (D : List Nat), D.length = 32 → (∀ x ∈ D, x < 256) → (lnkS D L).length = 32 ∧ ∀ x ∈ lnkS D L, x < 256
  | [], D, h1, h2 => ⟨h1, h2⟩
  | b :: L, D, h1, h2 => lnkS_ok L (lnk D b) (lnk_len D b) (lnk_byte D b)
def ckV (b : List Nat) (c : Nat) : V := .tup [.i (.sl (b.map by8)), .i (.int .i64 c)]
set_option maxHeartbeats 8000000 in
theorem ccwrite45 (c : Ct) (hc : OkT c) : CallW Tryd.prog (Gk (some tz) KEYS) 45 [ctV c] [] (fun r st' => r = ckV (if (chkT c).2 = 0 then certN c else []) (chkT c).2 ∧ st' = []) := by
  refine call_of_bodyF 0 (Nat.le_refl _) Tryd.func45 rfl (fun a w => Tryd.call45 a w) (wpx_ok (own := fun t => t == 19) _ _ _ ?_)
  have ck := check69 c hc hc.s
  obtain ⟨d, ss, js⟩ := c
  obtain ⟨h1, h2, h3, h4, hs⟩ := hc
  simp only at h1 h2 h3 h4 hs
  obtain ⟨d0, d1, d2, d3, d4, d5, d6, d7, d8, d9, d10, d11, d12, d13, d14, d15, d16, d17, d18, d19, d20, d21, d22, d23, d24, d25, d26, d27, d28, d29, d30, d31, hd⟩ := list32 h1
  replace hd : d = l32 d0 d1 d2 d3 d4 d5 d6 d7 d8 d9 d10 d11 d12 d13 d14 d15 d16 d17 d18 d19 d20 d21 d22 d23 d24 d25 d26 d27 d28 d29 d30 d31 := hd
  subst hd
  obtain ⟨⟨pos, code⟩, hr⟩ : ∃ r, r = chkT ⟨l32 d0 d1 d2 d3 d4 d5 d6 d7 d8 d9 d10 d11 d12 d13 d14 d15 d16 d17 d18 d19 d20 d21 d22 d23 d24 d25 d26 d27 d28 d29 d30 d31, ss, js⟩ := ⟨_, rfl⟩
  rw [← hr] at ck ⊢
  repeat ((conv => whnf); first | refine Br.t ?_ | refine Br.f ?_ | refine ⟨rfl, ?_⟩)
  conv => whnf
  refine CallW.mono (ck.glob.pure _ rfl rfl) ?_
  rintro r st' ⟨rfl, rfl⟩
  simp only [chkV]
  repeat ((conv => whnf); first | refine Br.t ?_ | refine Br.f ?_ | refine ⟨rfl, ?_⟩)
  conv => whnf
  refine Br.mk (fun g => ?_) (fun g => ?_)
  · have g : ¬ code = 0 := by simpa using g
    rw [if_neg g]
    repeat ((conv => whnf); first | refine Br.t ?_ | refine Br.f ?_ | refine ⟨rfl, ?_⟩)
    conv => whnf
    refine fin (target := []) rfl (by simp) (by simp) rfl rfl
  have g : code = 0 := by simpa using g
  have ok : CtOk ⟨l32 d0 d1 d2 d3 d4 d5 d6 d7 d8 d9 d10 d11 d12 d13 d14 d15 d16 d17 d18 d19 d20 d21 d22 d23 d24 d25 d26 d27 d28 d29 d30 d31, ss, js⟩ := chkT_zero (by rw [← hr]; exact g)
  rw [if_pos g]
  have hso : ∀ x ∈ ss, SecOk x := fun x hx => secB_ok.1 (ok.s x hx)
  have hsl : ss.length ≤ 16 := ok.n.2
  have hjl : js.length ≤ 16 := ok.m
  have c1 := upO0 (ctR ⟨l32 d0 d1 d2 d3 d4 d5 d6 d7 d8 d9 d10 d11 d12 d13 d14 d15 d16 d17 d18 d19 d20 d21 d22 d23 d24 d25 d26 d27 d28 d29 d30 d31, ss, js⟩) .dead (raw0 (alc.map by8) (bytes_one _) (by decide)) rfl rfl
  have c2 := upL (ctR ⟨l32 d0 d1 d2 d3 d4 d5 d6 d7 d8 d9 d10 d11 d12 d13 d14 d15 d16 d17 d18 d19 d20 d21 d22 d23 d24 d25 d26 d27 d28 d29 d30 d31, ss, js⟩) .dead [] (rawL 0 alc (l32 d0 d1 d2 d3 d4 d5 d6 d7 d8 d9 d10 d11 d12 d13 d14 d15 d16 d17 d18 d19 d20 d21 d22 d23 d24 d25 d26 d27 d28 d29 d30 d31) h1 (by decide) []) rfl rfl
  have pl := putN_len 4 ss.length (by omega)
  have al : alc.length = 4 := rfl
  have c3 := upP (ctR ⟨l32 d0 d1 d2 d3 d4 d5 d6 d7 d8 d9 d10 d11 d12 d13 d14 d15 d16 d17 d18 d19 d20 d21 d22 d23 d24 d25 d26 d27 d28 d29 d30 d31, ss, js⟩) .dead [lnkR (l32 d0 d1 d2 d3 d4 d5 d6 d7 d8 d9 d10 d11 d12 d13 d14 d15 d16 d17 d18 d19 d20 d21 d22 d23 d24 d25 d26 d27 d28 d29 d30 d31)] (num (1 + 0) ((alc ++ l32 d0 d1 d2 d3 d4 d5 d6 d7 d8 d9 d10 d11 d12 d13 d14 d15 d16 d17 d18 d19 d20 d21 d22 d23 d24 d25 d26 d27 d28 d29 d30 d31).map by8) ss.length (by omega) (by rw [List.length_map, List.length_append, h1]; omega)) rfl rfl
  rw [← List.map_append] at c3
  have hY : (alc ++ l32 d0 d1 d2 d3 d4 d5 d6 d7 d8 d9 d10 d11 d12 d13 d14 d15 d16 d17 d18 d19 d20 d21 d22 d23 d24 d25 d26 d27 d28 d29 d30 d31 ++ putN ss.length).length ≤ 1000 := by rw [List.length_append, List.length_append, h1]; omega
  have lo := cw_loop d0 d1 d2 d3 d4 d5 d6 d7 d8 d9 d10 d11 d12 d13 d14 d15 d16 d17 d18 d19 d20 d21 d22 d23 d24 d25 d26 d27 d28 d29 d30 d31 ss js hso hsl (alc ++ l32 d0 d1 d2 d3 d4 d5 d6 d7 d8 d9 d10 d11 d12 d13 d14 d15 d16 d17 d18 d19 d20 d21 d22 d23 d24 d25 d26 d27 d28 d29 d30 d31 ++ putN ss.length) (l32 d0 d1 d2 d3 d4 d5 d6 d7 d8 d9 d10 d11 d12 d13 d14 d15 d16 d17 d18 d19 d20 d21 d22 d23 d24 d25 d26 d27 d28 d29 d30 d31) hY h1 h2
  have hlk := lnkS_ok (ss.map secN) (l32 d0 d1 d2 d3 d4 d5 d6 d7 d8 d9 d10 d11 d12 d13 d14 d15 d16 d17 d18 d19 d20 d21 d22 d23 d24 d25 d26 d27 d28 d29 d30 d31) h1 h2
  have hch := chain_len ss (l32 d0 d1 d2 d3 d4 d5 d6 d7 d8 d9 d10 d11 d12 d13 d14 d15 d16 d17 d18 d19 d20 d21 d22 d23 d24 d25 d26 d27 d28 d29 d30 d31) hso
  have hLE : (alc ++ l32 d0 d1 d2 d3 d4 d5 d6 d7 d8 d9 d10 d11 d12 d13 d14 d15 d16 d17 d18 d19 d20 d21 d22 d23 d24 d25 d26 d27 d28 d29 d30 d31 ++ putN ss.length ++ chainN (l32 d0 d1 d2 d3 d4 d5 d6 d7 d8 d9 d10 d11 d12 d13 d14 d15 d16 d17 d18 d19 d20 d21 d22 d23 d24 d25 d26 d27 d28 d29 d30 d31) (ss.map secN)).length ≤ 100000 := by rw [List.length_append]; omega
  have cj := justs72 js ok.j hjl
  have jb := jstsN_byte js
  have jl : (jstsN js).length ≤ 200 := jstsN_len ok.j hjl
  have hcert : alc ++ l32 d0 d1 d2 d3 d4 d5 d6 d7 d8 d9 d10 d11 d12 d13 d14 d15 d16 d17 d18 d19 d20 d21 d22 d23 d24 d25 d26 d27 d28 d29 d30 d31 ++ putN ss.length ++ chainN (l32 d0 d1 d2 d3 d4 d5 d6 d7 d8 d9 d10 d11 d12 d13 d14 d15 d16 d17 d18 d19 d20 d21 d22 d23 d24 d25 d26 d27 d28 d29 d30 d31) (ss.map secN) ++ jstsN js ++ lnk (lnkS (l32 d0 d1 d2 d3 d4 d5 d6 d7 d8 d9 d10 d11 d12 d13 d14 d15 d16 d17 d18 d19 d20 d21 d22 d23 d24 d25 d26 d27 d28 d29 d30 d31) (ss.map secN)) (jstsN js) = certN ⟨l32 d0 d1 d2 d3 d4 d5 d6 d7 d8 d9 d10 d11 d12 d13 d14 d15 d16 d17 d18 d19 d20 d21 d22 d23 d24 d25 d26 d27 d28 d29 d30 d31, ss, js⟩ := by
    rw [certN_body, bodyN, lastL]; simp only [List.append_assoc]
  generalize alc ++ l32 d0 d1 d2 d3 d4 d5 d6 d7 d8 d9 d10 d11 d12 d13 d14 d15 d16 d17 d18 d19 d20 d21 d22 d23 d24 d25 d26 d27 d28 d29 d30 d31 ++ putN ss.length ++ chainN (l32 d0 d1 d2 d3 d4 d5 d6 d7 d8 d9 d10 d11 d12 d13 d14 d15 d16 d17 d18 d19 d20 d21 d22 d23 d24 d25 d26 d27 d28 d29 d30 d31) (ss.map secN) = Y3 at lo hLE hcert
  generalize lnkS (l32 d0 d1 d2 d3 d4 d5 d6 d7 d8 d9 d10 d11 d12 d13 d14 d15 d16 d17 d18 d19 d20 d21 d22 d23 d24 d25 d26 d27 d28 d29 d30 d31) (ss.map secN) = DE at lo hlk hcert
  have cp := put_at (some tz) (ctR ⟨l32 d0 d1 d2 d3 d4 d5 d6 d7 d8 d9 d10 d11 d12 d13 d14 d15 d16 d17 d18 d19 d20 d21 d22 d23 d24 d25 d26 d27 d28 d29 d30 d31, ss, js⟩) .dead [] 0 Y3 (jstsN js) DE hlk.1 hlk.2 jb (by omega) (by omega)
  rw [hcert] at cp
  have hcl : (certN ⟨l32 d0 d1 d2 d3 d4 d5 d6 d7 d8 d9 d10 d11 d12 d13 d14 d15 d16 d17 d18 d19 d20 d21 d22 d23 d24 d25 d26 d27 d28 d29 d30 d31, ss, js⟩).length ≤ 200000 := by rw [← hcert, List.length_append, List.length_append, lnk_len]; omega
  generalize certN ⟨l32 d0 d1 d2 d3 d4 d5 d6 d7 d8 d9 d10 d11 d12 d13 d14 d15 d16 d17 d18 d19 d20 d21 d22 d23 d24 d25 d26 d27 d28 d29 d30 d31, ss, js⟩ = X at cp hcl ⊢
  generalize lnk DE (jstsN js) = E at cp
  generalize jstsN js = J at cj cp
  have cb := upP (ctR ⟨l32 d0 d1 d2 d3 d4 d5 d6 d7 d8 d9 d10 d11 d12 d13 d14 d15 d16 d17 d18 d19 d20 d21 d22 d23 d24 d25 d26 d27 d28 d29 d30 d31, ss, js⟩) .dead [lnkR E] (bytes (1 + (1 + 0)) (X.map by8) (bytes_one _) (by rw [List.length_map]; omega)) rfl rfl
  repeat ((conv => whnf); first | refine Br.t ?_ | refine Br.f ?_ | refine ⟨rfl, ?_⟩)
  conv => whnf
  refine ⟨⟨rfl, by decide⟩, ?_⟩
  repeat ((conv => whnf); first | refine Br.t ?_ | refine Br.f ?_ | refine ⟨rfl, ?_⟩)
  conv => whnf
  refine CallW.mono c1.glob ?_
  rintro r st' ⟨rfl, rfl⟩
  repeat ((conv => whnf); first | refine Br.t ?_ | refine Br.f ?_ | refine ⟨rfl, ?_⟩)
  conv => whnf
  refine ⟨⟨rfl, rfl, rfl, rfl, rfl⟩, ?_⟩
  repeat ((conv => whnf); first | refine Br.t ?_ | refine Br.f ?_ | refine ⟨rfl, ?_⟩)
  conv => whnf
  refine ⟨⟨rfl, rfl, rfl, by decide, by decide, by decide, by decide, by decide⟩, ?_⟩
  repeat ((conv => whnf); first | refine Br.t ?_ | refine Br.f ?_ | refine ⟨rfl, ?_⟩)
  conv => whnf
  refine CallW.mono c2.glob ?_
  rintro r st' ⟨rfl, rfl⟩
  repeat ((conv => whnf); first | refine Br.t ?_ | refine Br.f ?_ | refine ⟨rfl, ?_⟩)
  conv => whnf
  rw [show (((ss.map encSec).length : Nat) : Int) = ((ss.length : Nat) : Int) by rw [List.length_map]]
  refine CallW.mono c3.glob ?_
  rintro r st' ⟨rfl, rfl⟩
  repeat ((conv => whnf); first | refine Br.t ?_ | refine Br.f ?_ | refine ⟨rfl, ?_⟩)
  conv => whnf
  refine W.le (s' := ⟨cwL ss 0, wrU (ctR ⟨l32 d0 d1 d2 d3 d4 d5 d6 d7 d8 d9 d10 d11 d12 d13 d14 d15 d16 d17 d18 d19 d20 d21 d22 d23 d24 d25 d26 d27 d28 d29 d30 d31, ss, js⟩) .dead 0 ((alc ++ l32 d0 d1 d2 d3 d4 d5 d6 d7 d8 d9 d10 d11 d12 d13 d14 d15 d16 d17 d18 d19 d20 d21 d22 d23 d24 d25 d26 d27 d28 d29 d30 d31 ++ putN ss.length).map by8) ++ [lnkR (l32 d0 d1 d2 d3 d4 d5 d6 d7 d8 d9 d10 d11 d12 d13 d14 d15 d16 d17 d18 d19 d20 d21 d22 d23 d24 d25 d26 d27 d28 d29 d30 d31)]⟩) ((Le.slE (sl' := cwL ss 0) (st' := wrU (ctR ⟨l32 d0 d1 d2 d3 d4 d5 d6 d7 d8 d9 d10 d11 d12 d13 d14 d15 d16 d17 d18 d19 d20 d21 d22 d23 d24 d25 d26 d27 d28 d29 d30 d31, ss, js⟩) .dead 2 ((alc ++ l32 d0 d1 d2 d3 d4 d5 d6 d7 d8 d9 d10 d11 d12 d13 d14 d15 d16 d17 d18 d19 d20 d21 d22 d23 d24 d25 d26 d27 d28 d29 d30 d31 ++ putN ss.length).map by8) ++ [lnkR (l32 d0 d1 d2 d3 d4 d5 d6 d7 d8 d9 d10 d11 d12 d13 d14 d15 d16 d17 d18 d19 d20 d21 d22 d23 d24 d25 d26 d27 d28 d29 d30 d31)]) (by repeat ((conv => whnf); first | exact trivial | refine ⟨.inl rfl, ?_⟩ | refine ⟨.inr rfl, ?_⟩ | refine ⟨.inr (by simp), ?_⟩)) rfl).trans (Le.down (fun id => if id = 3 then 2 else 0) (fun id hid => by cases hid) ?_ ?_)) (W.mono lo ?_)
  · simp [leS, cwL, V.up, V.up.upAll]
  · simp [upSt, Ob.up, wrU, lnkR, ctR, encCt, l32, encSec, V.up.upAll, V.up, map_up_lift]
  rintro e s ⟨rfl, rfl⟩
  repeat ((conv => whnf); first | refine Br.t ?_ | refine Br.f ?_ | refine ⟨rfl, ?_⟩)
  conv => whnf
  refine CallW.mono (cj.glob.pure _ rfl rfl) ?_
  rintro r st' ⟨rfl, rfl⟩
  repeat ((conv => whnf); first | refine Br.t ?_ | refine Br.f ?_ | refine ⟨rfl, ?_⟩)
  conv => whnf
  refine CallW.mono cp ?_
  rintro r st' ⟨rfl, rfl⟩
  repeat ((conv => whnf); first | refine Br.t ?_ | refine Br.f ?_ | refine ⟨rfl, ?_⟩)
  conv => whnf
  refine CallW.mono cb.glob ?_
  rintro r st' ⟨rfl, rfl⟩
  repeat ((conv => whnf); first | refine Br.t ?_ | refine Br.f ?_ | refine ⟨rfl, ?_⟩)
  conv => whnf
  rw [g]
  refine fin (target := []) rfl (by simp) (by simp) rfl rfl
end Go.Proofs.YtdbmfnhbgacldaaDoor.Am

/- Contracts: a section's bytes, the document's. -/
namespace Go.Proofs.YtdbmfnhbgacldaaDoor.Am
set_option autoImplicit false
set_option linter.unusedVariables false
set_option linter.unusedSimpArgs false
set_option maxRecDepth 100000
set_option pp.maxSteps 3000
set_option pp.proofs false
end Go.Proofs.YtdbmfnhbgacldaaDoor.Am

/- Contracts: a link, the document's. -/
namespace Go.Proofs.YtdbmfnhbgacldaaDoor.Am
set_option autoImplicit false
set_option linter.unusedVariables false
set_option linter.unusedSimpArgs false
set_option maxRecDepth 100000
set_option pp.maxSteps 3000
set_option pp.proofs false
end Go.Proofs.YtdbmfnhbgacldaaDoor.Am

/- Contracts: a certificate's bytes, the document's: the loops. -/
namespace Go.Proofs.YtdbmfnhbgacldaaDoor.Am
set_option autoImplicit false
set_option linter.unusedVariables false
set_option linter.unusedSimpArgs false
set_option maxRecDepth 100000
set_option pp.maxSteps 3000
set_option pp.proofs false
end Go.Proofs.YtdbmfnhbgacldaaDoor.Am

/- Contracts: a certificate's bytes, the document's: the justifications. -/
namespace Go.Proofs.YtdbmfnhbgacldaaDoor.Am
set_option autoImplicit false
set_option linter.unusedVariables false
set_option linter.unusedSimpArgs false
set_option maxRecDepth 100000
set_option pp.maxSteps 3000
set_option pp.proofs false
end Go.Proofs.YtdbmfnhbgacldaaDoor.Am

/- Contracts: a certificate's bytes, the document's. -/
namespace Go.Proofs.YtdbmfnhbgacldaaDoor.Am
set_option autoImplicit false
set_option linter.unusedVariables false
set_option linter.unusedSimpArgs false
set_option maxRecDepth 100000
set_option pp.maxSteps 3000
set_option pp.proofs false
end Go.Proofs.YtdbmfnhbgacldaaDoor.Am

/- Contracts: the law of a certificate's bytes. -/
namespace Go.Proofs.YtdbmfnhbgacldaaDoor.Am
set_option autoImplicit false
set_option linter.unusedVariables false
set_option linter.unusedSimpArgs false
set_option maxRecDepth 100000
set_option pp.maxSteps 3000
set_option pp.proofs false
def ct0 : Ct := ⟨List.replicate 32 0, [(0, 0, [0], 0, 0, [0])], []⟩
theorem okT0 : OkT ct0 := ⟨rfl, fun x hx => by have := List.eq_of_mem_replicate hx; omega, by decide, by decide, fun x hx => by
  have : x = (0, 0, [0], 0, 0, [0]) := by simpa [ct0] using hx
  subst this
  exact ⟨by decide, by decide, ⟨by decide, by decide⟩, by decide, by decide, ⟨by decide, by decide⟩⟩⟩
theorem chk0 : (chkT ct0).2 = 0 := by decide
theorem set0N : setN 0 = [0] := by rw [setN, ids_zero]; simp [num_nat2]
theorem cert0 : certN ct0 = [97, 108, 99, 49] ++ List.replicate 32 0 ++ [1, 0, 0, 0, 0, 1, 0, 0] ++ (lnk (List.replicate 32 0) [0, 0, 0, 0, 1, 0, 0] ++ ([0] ++ lnk (lnk (List.replicate 32 0) [0, 0, 0, 0, 1, 0, 0]) [0])) := by
  have e : secN (0, 0, [0], 0, 0, [0]) = [0, 0, 0, 0, 1, 0, 0] := by
    simp only [secN, set0N, List.flatMap_cons, List.flatMap_nil, List.length_cons, List.length_nil]
    rw [num_nat2 _ (by decide)]; rfl
  have e2 : jstsN [] = [0] := by simp only [jstsN, List.flatMap_nil, List.length_nil]; rw [num_nat2 _ (by decide)]; rfl
  have e3 : putN 1 = [1] := num_nat2 1 (by decide)
  show alc ++ (List.replicate 32 0 ++ (putN 1 ++ (secN (0, 0, [0], 0, 0, [0]) ++ (lnk (List.replicate 32 0) (secN (0, 0, [0], 0, 0, [0])) ++ (jstsN [] ++ (lnk (lnk (List.replicate 32 0) (secN (0, 0, [0], 0, 0, [0]))) (jstsN []) ++ [])))))) = _
  rw [e, e2, e3, alc]
  simp only [List.append_assoc, List.append_nil, List.cons_append, List.nil_append]
set_option maxHeartbeats 8000000 in
theorem awake19 : CallW Tryd.prog (Gk (some tz) KEYS) 43 [] [] (fun r st' => r = .i (.bool true) ∧ st' = []) := by
  refine call_of_bodyF 0 (Nat.le_refl _) Tryd.func43 rfl (fun a w => Tryd.call43 a w) (wpx_ok (own := own0) _ _ _ ?_)
  have cw := ccwrite45 ct0 okT0
  rw [if_pos chk0, chk0, cert0] at cw
  have hE := lnk_len (List.replicate 32 0) [0, 0, 0, 0, 1, 0, 0]
  generalize lnk (List.replicate 32 0) [0, 0, 0, 0, 1, 0, 0] = E at cw hE
  have hF := lnk_len E [0]
  generalize lnk E [0] = F at cw hF
  obtain ⟨e0, e1, e2, e3, e4, e5, e6, e7, e8, e9, e10, e11, e12, e13, e14, e15, e16, e17, e18, e19, e20, e21, e22, e23, e24, e25, e26, e27, e28, e29, e30, e31, rfl⟩ := list32 hE
  obtain ⟨f0, f1, f2, f3, f4, f5, f6, f7, f8, f9, f10, f11, f12, f13, f14, f15, f16, f17, f18, f19, f20, f21, f22, f23, f24, f25, f26, f27, f28, f29, f30, f31, rfl⟩ := list32 hF
  have cw2 : CallW Tryd.prog (Gk (some tz) KEYS) 45 [.agg (((List.replicate 32 0).map fun n : Nat => V.i (.int .u8 n)) ++ [.i (.sl [encSec (0, 0, [0], 0, 0, [0])]), .nils])] [] (fun r st' => r = ckV ([97, 108, 99, 49] ++ List.replicate 32 0 ++ [1, 0, 0, 0, 0, 1, 0, 0] ++ ([e0, e1, e2, e3, e4, e5, e6, e7, e8, e9, e10, e11, e12, e13, e14, e15, e16, e17, e18, e19, e20, e21, e22, e23, e24, e25, e26, e27, e28, e29, e30, e31] ++ ([0] ++ [f0, f1, f2, f3, f4, f5, f6, f7, f8, f9, f10, f11, f12, f13, f14, f15, f16, f17, f18, f19, f20, f21, f22, f23, f24, f25, f26, f27, f28, f29, f30, f31]))) 0 ∧ st' = []) := cw.nd rfl
  repeat ((conv => whnf); first | refine Br.t ?_ | refine Br.f ?_ | refine ⟨rfl, ?_⟩)
  conv => whnf
  refine CallW.mono (cw2.pure _ rfl rfl) ?_
  rintro r st' ⟨rfl, rfl⟩
  simp only [ckV]
  repeat ((conv => whnf); first | refine Br.t ?_ | refine Br.f ?_ | refine ⟨rfl, ?_⟩)
  conv => whnf
  refine ⟨⟨by decide, by decide, by show (4 : Int) ≤ ((109 : Nat) : Int); decide, bytes_one _⟩, ?_⟩
  repeat ((conv => whnf); first | refine Br.t ?_ | refine Br.f ?_ | refine ⟨rfl, ?_⟩)
  conv => whnf
  refine ⟨isB_ok (isB_map [97, 108, 99, 49]), ?_⟩
  repeat ((conv => whnf); first | refine Br.t ?_ | refine Br.f ?_ | refine ⟨rfl, ?_⟩)
  conv => whnf
  refine ⟨⟨by decide, by decide, by show (44 : Int) ≤ ((109 : Nat) : Int); decide, bytes_one _⟩, ?_⟩
  repeat ((conv => whnf); first | refine Br.t ?_ | refine Br.f ?_ | refine ⟨rfl, ?_⟩)
  conv => whnf
  refine ⟨isB_ok (isB_map [1, 0, 0, 0, 0, 1, 0, 0]), ?_⟩
  repeat ((conv => whnf); first | refine Br.t ?_ | refine Br.f ?_ | refine ⟨rfl, ?_⟩)
  conv => whnf
  refine fin (target := []) rfl (Nat.zero_le _) (by simp) rfl rfl
theorem okT_of {c : Ct} (h1 : c.d.length = 32) (h2 : ∀ x ∈ c.d, x < 256) (h3 : c.ss.length ≤ 9223372036854775807) (h4 : c.js.length ≤ 9223372036854775807) (h5 : ∀ s ∈ c.ss, s.1 < 4294967296 ∧ s.2.1 < 4294967296 ∧ (∀ m ∈ s.2.2.1, m < 4294967296) ∧ s.2.2.2.1 < 4294967296 ∧ s.2.2.2.2.1 < 4294967296 ∧ (∀ m ∈ s.2.2.2.2.2, m < 4294967296)) (hf : fewB c = true) : OkT c := by
  unfold fewB at hf
  simp only [Bool.and_eq_true, decide_eq_true_eq, List.all_eq_true] at hf
  refine ⟨h1, h2, h3, h4, fun s hs => ?_⟩
  obtain ⟨k1, k2, k3, k4, k5, k6⟩ := h5 s hs
  obtain ⟨q1, q2⟩ := hf.2 s hs
  exact ⟨k1, k2, ⟨by omega, k3⟩, k4, k5, ⟨by omega, k6⟩⟩
theorem certN_byte {c : Ct} (h2 : ∀ x ∈ c.d, x < 256) : ∀ x ∈ certN c, x < 256 := by
  have hch : ∀ (L : List (List Nat)) (k : List Nat), (∀ b ∈ L, ∀ x ∈ b, x < 256) → ∀ x ∈ chainN k L, x < 256 := by
    intro L
    induction L with
    | nil => intro k _ x hx; cases hx
    | cons b L ih =>
      intro k h x hx
      simp only [chainN, List.mem_append] at hx
      rcases hx with hx | hx | hx
      · exact h b (by simp) x hx
      · exact lnk_byte _ _ x hx
      · exact ih _ (fun b hb => h b (by simp [hb])) x hx
  intro x hx
  simp only [certN, List.mem_append] at hx
  rcases hx with hx | hx | hx | hx
  · simp only [alc, List.mem_cons, List.not_mem_nil, or_false] at hx; omega
  · exact h2 x hx
  · exact putN_byte _ x hx
  · refine hch _ _ (fun b hb => ?_) x hx
    simp only [partsC, List.mem_append, List.mem_map, List.mem_singleton] at hb
    rcases hb with ⟨s, _, rfl⟩ | rfl
    · exact secN_byte s
    · exact jstsN_byte _
def okM (c : Ct) : Prop := ∀ s ∈ c.ss, s.1 < 4294967296 ∧ s.2.1 < 4294967296 ∧ (∀ m ∈ s.2.2.1, m < 4294967296) ∧ s.2.2.2.1 < 4294967296 ∧ s.2.2.2.2.1 < 4294967296 ∧ (∀ m ∈ s.2.2.2.2.2, m < 4294967296)
end Go.Proofs.YtdbmfnhbgacldaaDoor.Am

/- Plain laws: certificates' bytes: how many, and whose. -/
namespace Go.Proofs.YtdbmfnhbgacldaaDoor.Am
set_option autoImplicit false
set_option linter.unusedVariables false
set_option linter.unusedSimpArgs false
set_option maxRecDepth 10000
theorem setN_lenz {m z : Nat} (hz : z ≤ 32) (h : m < 2 ^ z) : (setN m).length ≤ 1 + z := by
  have h1 := rising_len (ids m) z (ids_rising m) (ids_small h)
  have h2 : ((ids m).flatMap putN).length = (ids m).length := flat_len (fun i hi => by have := ids_small h i hi; omega)
  have h3 : (putN (ids m).length).length = 1 := by rw [num_nat2 _ (by omega)]; rfl
  rw [setN, List.length_append, h2, h3]; omega
theorem flatz {z : Nat} (hz : z ≤ 32) : ∀ L : List Nat, (∀ m ∈ L, m < 2 ^ z) → (L.flatMap setN).length ≤ (1 + z) * L.length
  | [], _ => by simp
  | x :: L, h => by
    have h1 := flatz hz L (fun m hm => h m (by simp [hm]))
    have h2 := setN_lenz hz (h x (by simp))
    simp only [List.flatMap_cons, List.length_append, List.length_cons, Nat.mul_add, Nat.mul_one]; omega
theorem secN_len2 {s : Sec} (h : SecOk s) : (secN s).length ≤ 1800 := by
  have h1 := flatz (z := 16) (by decide) s.2.2.1 h.h
  have h2 := flatz (z := 9) (by decide) s.2.2.2.2.2 h.v
  have := h.n; have := h.l
  have p : (putN s.2.2.1.length).length = 1 := by rw [num_nat2 _ (by omega)]; rfl
  have q1 := setN_lenz (z := 16) (by decide) h.a
  have q2 := setN_lenz (z := 16) (by decide) h.b
  have q3 := setN_lenz (z := 9) (by decide) h.c
  have q4 := setN_lenz (z := 9) (by decide) h.e
  simp only [secN, List.length_append]; omega
theorem chain_len2 : ∀ (L : List Sec) (D : List Nat), (∀ s ∈ L, SecOk s) → (chainN D (L.map secN)).length ≤ 1832 * L.length
  | [], D, _ => by simp [chainN]
  | x :: L, D, h => by
    have h1 := chain_len2 L (lnk D (secN x)) (fun s hs => h s (by simp [hs]))
    have h2 := secN_len2 (h x (by simp))
    have h3 := lnk_len D (secN x)
    simp only [List.map_cons, chainN, List.length_append, List.length_cons]; omega
theorem certN_len {c : Ct} (ok : CtOk c) (hd : c.d.length = 32) : (certN c).length ≤ 40000 := by
  have h1 := chain_len2 c.ss c.d (fun s hs => secB_ok.1 (ok.s s hs))
  have h2 := jstsN_len ok.j ok.m
  have h3 := lnk_len (lnkS c.d (c.ss.map secN)) (jstsN c.js)
  have := ok.n
  have p := putN_len 4 c.ss.length (by omega)
  rw [certN_body, bodyN, lastL]
  simp only [List.length_append, alc, List.length_cons, List.length_nil]; omega
theorem readC_back {c : Ct} (ok : CtOk c) (hd : c.d.length = 32) : readC (certN c) = (c, 0, 0) := by
  have hl := certN_len ok hd
  have h := readC_with ok hd (lastL c) [] (lnk_len _ _) (by rw [List.append_nil, ← certN_body]; omega)
  rw [List.append_nil, ← certN_body, if_pos rfl, if_pos rfl] at h
  exact h
theorem certN_inj {a b : Ct} (ha : CtOk a) (hb : CtOk b) (da : a.d.length = 32) (db : b.d.length = 32) (h : certN a = certN b) : a = b := by
  have h1 := readC_back ha da
  rw [h, readC_back hb db] at h1
  exact (congrArg Prod.fst h1).symm
end Go.Proofs.YtdbmfnhbgacldaaDoor.Am

/- Contracts: whether two certificates are alike. -/
namespace Go.Proofs.YtdbmfnhbgacldaaDoor.Am
set_option autoImplicit false
set_option linter.unusedVariables false
set_option linter.unusedSimpArgs false
set_option maxRecDepth 100000
set_option pp.maxSteps 3000
set_option pp.proofs false
theorem je_eq (x y : Jst) : (x.1 == y.1 && (x.2 == y.2 && true)) = decide (x = y) := by
  obtain ⟨a, b⟩ := x
  obtain ⟨c, d⟩ := y
  rw [Bool.eq_iff_iff]
  simp
theorem equalW98 (L M : List Nat) (hl : L.length ≤ 9223372036854775807) (hm : M.length ≤ 9223372036854775807) : CallW Tryd.prog G0 98 [.i (.sl (L.map w4)), .i (.sl (M.map w4))] [] (fun r st' => r = .i (.bool (decide (L = M))) ∧ st' = []) := by
  refine call_of_bodyF 0 (Nat.le_refl _) Tryd.func98 rfl (fun a w => Tryd.call98 a w) (wpx_ok (own := own0) _ _ _ ?_)
  repeat ((conv => whnf); first | refine Br.t ?_ | refine Br.f ?_ | refine ⟨rfl, ?_⟩)
  conv => whnf
  refine Br.mk (fun h => ?_) (fun h => ?_)
  · have h : L.length ≠ M.length := by simp at h; omega
    rw [decide_eq_false (fun e => h (by rw [e]))]
    repeat ((conv => whnf); first | refine Br.t ?_ | refine Br.f ?_ | refine ⟨rfl, ?_⟩)
    conv => whnf
    refine fin (target := []) rfl (Nat.zero_le _) (by simp) rfl rfl
  · have hlm : L.length = M.length := by simp at h; omega
    obtain ⟨R, hR⟩ : ∃ R, R = decide (L = M) := ⟨_, rfl⟩
    rw [← hR]
    repeat ((conv => whnf); first | refine Br.t ?_ | refine Br.f ?_ | refine ⟨rfl, ?_⟩)
    conv => whnf
    refine loop_ok (α := Nat) (fun i => ⟨mkS 26 [(0, .i (.sl (L.map w4))), (1, .i (.sl (M.map w4))), (12, .i (.int .i64 L.length)), (13, .i (.int .i64 i))], []⟩)
      (fun i => i ≤ L.length ∧ decide (L.drop i = M.drop i) = R) (fun i => L.length - i) 0 ⟨Nat.zero_le _, hR.symm⟩ (Le.slots (by simp [leS, mkS])) (fun i hi => wpx_ok (own := own0) _ _ _ ?_)
    obtain ⟨h1, h2⟩ := hi
    repeat ((conv => whnf); first | refine Br.t ?_ | refine Br.f ?_ | refine ⟨rfl, ?_⟩)
    conv => whnf
    refine Br.mk (fun g => ?_) (fun g => ?_)
    · have g : i < L.length := by simpa using g
      obtain ⟨x, hx⟩ : ∃ x, x = L[i] := ⟨_, rfl⟩
      obtain ⟨y, hy⟩ : ∃ y, y = M[i]'(by omega) := ⟨_, rfl⟩
      have ex : (L.map w4).getD (i : Int).toNat [] = w4 x := by rw [hx]; exact getD_enc g
      have ey : (M.map w4).getD (i : Int).toNat [] = w4 y := by rw [hy]; exact getD_enc (by omega)
      have edx : L.drop i = x :: L.drop (i + 1) := by rw [hx]; exact List.drop_eq_getElem_cons g
      have edy : M.drop i = y :: M.drop (i + 1) := by rw [hy]; exact List.drop_eq_getElem_cons (by omega)
      rw [edx, edy] at h2
      repeat ((conv => whnf); first | refine Br.t ?_ | refine Br.f ?_ | refine ⟨rfl, ?_⟩)
      conv => whnf
      refine draw_ok (own := own0) [] [] [] rfl (by kernel_rfl) (Nat.zero_le _) ?_
      repeat ((conv => whnf); first | refine Br.t ?_ | refine Br.f ?_ | refine ⟨rfl, ?_⟩)
      conv => whnf
      rw [ex]
      refine ⟨⟨by omega, by simp; omega, rfl⟩, ?_⟩
      repeat ((conv => whnf); first | refine Br.t ?_ | refine Br.f ?_ | refine ⟨rfl, ?_⟩)
      conv => whnf
      rw [ey]
      refine ⟨⟨by omega, by simp; omega, rfl⟩, ?_⟩
      repeat ((conv => whnf); first | refine Br.t ?_ | refine Br.f ?_ | refine ⟨rfl, ?_⟩)
      conv => whnf
      refine ⟨by repeat ((conv => whnf); first | exact trivial | refine ⟨rfl, ?_⟩), trivial, ?_⟩
      conv => whnf
      repeat ((conv => whnf); first | refine Br.t ?_ | refine Br.f ?_ | refine ⟨rfl, ?_⟩)
      conv => whnf
      refine Br.mk (fun h => ?_) (fun h => ?_)
      · have hxy : x ≠ y := by intro e; subst e; simp at h
        have hRf : R = false := by rw [← h2]; simp [hxy]
        rw [hRf]
        repeat ((conv => whnf); first | refine Br.t ?_ | refine Br.f ?_ | refine ⟨rfl, ?_⟩)
        conv => whnf
        refine fin (target := []) rfl (Nat.zero_le _) (by simp) rfl rfl
      · have hxy : x = y := Int.ofNat_inj.1 (by simpa using h)
        repeat ((conv => whnf); first | refine Br.t ?_ | refine Br.f ?_ | refine ⟨rfl, ?_⟩)
        conv => whnf
        refine ⟨i + 1, ⟨by omega, by rw [← h2, hxy]; simp⟩, by omega, Le.slots ?_⟩
        simp [leS, mkS]
        exact i64_id (by omega) (by omega)
    · have g : i = L.length := by simp at g; omega
      have hRt : R = true := by rw [← h2, g, List.drop_length, hlm, List.drop_length]; rfl
      rw [hRt]
      repeat ((conv => whnf); first | refine Br.t ?_ | refine Br.f ?_ | refine ⟨rfl, ?_⟩)
      conv => whnf
      refine fin (target := []) rfl (Nat.zero_le _) (by simp) rfl rfl
theorem equalJ79 (L M : List Jst) (hl : L.length ≤ 9223372036854775807) (hm : M.length ≤ 9223372036854775807) : CallW Tryd.prog G0 79 [.i (.sl (L.map encJ)), .i (.sl (M.map encJ))] [] (fun r st' => r = .i (.bool (decide (L = M))) ∧ st' = []) := by
  refine call_of_bodyF 0 (Nat.le_refl _) Tryd.func79 rfl (fun a w => Tryd.call79 a w) (wpx_ok (own := own0) _ _ _ ?_)
  repeat ((conv => whnf); first | refine Br.t ?_ | refine Br.f ?_ | refine ⟨rfl, ?_⟩)
  conv => whnf
  refine Br.mk (fun h => ?_) (fun h => ?_)
  · have h : L.length ≠ M.length := by simp at h; omega
    rw [decide_eq_false (fun e => h (by rw [e]))]
    repeat ((conv => whnf); first | refine Br.t ?_ | refine Br.f ?_ | refine ⟨rfl, ?_⟩)
    conv => whnf
    refine fin (target := []) rfl (Nat.zero_le _) (by simp) rfl rfl
  · have hlm : L.length = M.length := by simp at h; omega
    obtain ⟨R, hR⟩ : ∃ R, R = decide (L = M) := ⟨_, rfl⟩
    rw [← hR]
    repeat ((conv => whnf); first | refine Br.t ?_ | refine Br.f ?_ | refine ⟨rfl, ?_⟩)
    conv => whnf
    refine loop_ok (α := Nat) (fun i => ⟨mkS 26 [(0, .i (.sl (L.map encJ))), (1, .i (.sl (M.map encJ))), (12, .i (.int .i64 L.length)), (13, .i (.int .i64 i))], []⟩)
      (fun i => i ≤ L.length ∧ decide (L.drop i = M.drop i) = R) (fun i => L.length - i) 0 ⟨Nat.zero_le _, hR.symm⟩ (Le.slots (by simp [leS, mkS])) (fun i hi => wpx_ok (own := own0) _ _ _ ?_)
    obtain ⟨h1, h2⟩ := hi
    repeat ((conv => whnf); first | refine Br.t ?_ | refine Br.f ?_ | refine ⟨rfl, ?_⟩)
    conv => whnf
    refine Br.mk (fun g => ?_) (fun g => ?_)
    · have g : i < L.length := by simpa using g
      obtain ⟨x, hx⟩ : ∃ x, x = L[i] := ⟨_, rfl⟩
      obtain ⟨y, hy⟩ : ∃ y, y = M[i]'(by omega) := ⟨_, rfl⟩
      have ex : (L.map encJ).getD (i : Int).toNat [] = encJ x := by rw [hx]; exact getD_enc g
      have ey : (M.map encJ).getD (i : Int).toNat [] = encJ y := by rw [hy]; exact getD_enc (by omega)
      have edx : L.drop i = x :: L.drop (i + 1) := by rw [hx]; exact List.drop_eq_getElem_cons g
      have edy : M.drop i = y :: M.drop (i + 1) := by rw [hy]; exact List.drop_eq_getElem_cons (by omega)
      rw [edx, edy] at h2
      repeat ((conv => whnf); first | refine Br.t ?_ | refine Br.f ?_ | refine ⟨rfl, ?_⟩)
      conv => whnf
      refine draw_ok (own := own0) [] [] [] rfl (by kernel_rfl) (Nat.zero_le _) ?_
      repeat ((conv => whnf); first | refine Br.t ?_ | refine Br.f ?_ | refine ⟨rfl, ?_⟩)
      conv => whnf
      rw [ex]
      refine ⟨⟨by omega, by simp; omega, rfl⟩, ?_⟩
      repeat ((conv => whnf); first | refine Br.t ?_ | refine Br.f ?_ | refine ⟨rfl, ?_⟩)
      conv => whnf
      rw [ey]
      refine ⟨⟨by omega, by simp; omega, rfl⟩, ?_⟩
      repeat ((conv => whnf); first | refine Br.t ?_ | refine Br.f ?_ | refine ⟨rfl, ?_⟩)
      conv => whnf
      refine ⟨by kernel_rfl, ?_⟩
      repeat ((conv => whnf); first | refine Br.t ?_ | refine Br.f ?_ | refine ⟨rfl, ?_⟩)
      conv => whnf
      refine ⟨by repeat ((conv => whnf); first | exact trivial | refine ⟨rfl, ?_⟩), trivial, ?_⟩
      conv => whnf
      repeat ((conv => whnf); first | refine Br.t ?_ | refine Br.f ?_ | refine ⟨rfl, ?_⟩)
      conv => whnf
      refine Br.mk (fun h => ?_) (fun h => ?_)
      · have hxy : x ≠ y := by intro e; have hfe := je_eq x y; rw [decide_eq_true e] at hfe; rw [hfe] at h; simp at h
        have hRf : R = false := by rw [← h2]; simp [hxy]
        rw [hRf]
        repeat ((conv => whnf); first | refine Br.t ?_ | refine Br.f ?_ | refine ⟨rfl, ?_⟩)
        conv => whnf
        refine fin (target := []) rfl (Nat.zero_le _) (by simp) rfl rfl
      · have hxy : x = y := by have hfe := je_eq x y; rw [hfe] at h; simpa using h
        repeat ((conv => whnf); first | refine Br.t ?_ | refine Br.f ?_ | refine ⟨rfl, ?_⟩)
        conv => whnf
        refine ⟨i + 1, ⟨by omega, by rw [← h2, hxy]; simp⟩, by omega, Le.slots ?_⟩
        simp [leS, mkS]
        exact i64_id (by omega) (by omega)
    · have g : i = L.length := by simp at g; omega
      have hRt : R = true := by rw [← h2, g, List.drop_length, hlm, List.drop_length]; rfl
      rw [hRt]
      repeat ((conv => whnf); first | refine Br.t ?_ | refine Br.f ?_ | refine ⟨rfl, ?_⟩)
      conv => whnf
      refine fin (target := []) rfl (Nat.zero_le _) (by simp) rfl rfl
def sameSec (x y : Sec) : Bool := decide (x.1 = y.1) && (decide (x.2.1 = y.2.1) && (decide (x.2.2.2.1 = y.2.2.2.1) && (decide (x.2.2.2.2.1 = y.2.2.2.2.1) && (decide (x.2.2.1 = y.2.2.1) && decide (x.2.2.2.2.2 = y.2.2.2.2.2)))))
theorem sameSec_eq (x y : Sec) : sameSec x y = decide (x = y) := by
  obtain ⟨a, b, H, c, e, L⟩ := x
  obtain ⟨a', b', H', c', e', L'⟩ := y
  rw [Bool.eq_iff_iff]
  simp only [sameSec, Bool.and_eq_true, decide_eq_true_eq, Prod.mk.injEq]
  constructor
  · rintro ⟨h1, h2, h3, h4, h5, h6⟩; exact ⟨h1, h2, h5, h3, h4, h6⟩
  · rintro ⟨h1, h2, h3, h4, h5, h6⟩; exact ⟨h1, h2, h4, h5, h3, h6⟩
theorem ci (a b : Nat) : (((a : Nat) : Int) == ((b : Nat) : Int)) = decide (a = b) := by
  rw [Bool.eq_iff_iff]; simp; omega
set_option maxHeartbeats 8000000 in
theorem alike78 (x y : Sec) (hx : x.2.2.1.length ≤ 9223372036854775807 ∧ x.2.2.2.2.2.length ≤ 9223372036854775807) (hy : y.2.2.1.length ≤ 9223372036854775807 ∧ y.2.2.2.2.2.length ≤ 9223372036854775807) : CallW Tryd.prog G0 78 [secV x, secV y] [] (fun r st' => r = .i (.bool (decide (x = y))) ∧ st' = []) := by
  refine call_of_bodyF 0 (Nat.le_refl _) Tryd.func78 rfl (fun a w => Tryd.call78 a w) (wpx_ok (own := own0) _ _ _ ?_)
  rw [← sameSec_eq]
  unfold sameSec
  have c1 := equalW98 x.2.2.1 y.2.2.1 hx.1 hy.1
  have c2 := equalW98 x.2.2.2.2.2 y.2.2.2.2.2 hx.2 hy.2
  have k1 := ci x.1 y.1
  have k2 := ci x.2.1 y.2.1
  have k3 := ci x.2.2.2.1 y.2.2.2.1
  have k4 := ci x.2.2.2.2.1 y.2.2.2.2.1
  generalize decide (x.2.2.1 = y.2.2.1) = b5 at c1 ⊢
  generalize decide (x.2.2.2.2.2 = y.2.2.2.2.2) = b6 at c2 ⊢
  generalize decide (x.1 = y.1) = b1 at k1 ⊢
  generalize decide (x.2.1 = y.2.1) = b2 at k2 ⊢
  generalize decide (x.2.2.2.1 = y.2.2.2.1) = b3 at k3 ⊢
  generalize decide (x.2.2.2.2.1 = y.2.2.2.2.1) = b4 at k4 ⊢
  repeat ((conv => whnf); first | refine Br.t ?_ | refine Br.f ?_ | refine ⟨rfl, ?_⟩)
  conv => whnf
  rw [k1]
  refine Br.mk (fun g => ?_) (fun g => ?_)
  · subst g
    repeat ((conv => whnf); first | refine Br.t ?_ | refine Br.f ?_ | refine ⟨rfl, ?_⟩)
    conv => whnf
    rw [k2]
    refine Br.mk (fun g => ?_) (fun g => ?_)
    · subst g
      repeat ((conv => whnf); first | refine Br.t ?_ | refine Br.f ?_ | refine ⟨rfl, ?_⟩)
      conv => whnf
      rw [k3]
      refine Br.mk (fun g => ?_) (fun g => ?_)
      · subst g
        repeat ((conv => whnf); first | refine Br.t ?_ | refine Br.f ?_ | refine ⟨rfl, ?_⟩)
        conv => whnf
        rw [k4]
        refine Br.mk (fun g => ?_) (fun g => ?_)
        · subst g
          repeat ((conv => whnf); first | refine Br.t ?_ | refine Br.f ?_ | refine ⟨rfl, ?_⟩)
          conv => whnf
          refine CallW.mono (c1.pure _ rfl rfl) ?_
          rintro r st' ⟨rfl, rfl⟩
          repeat ((conv => whnf); first | refine Br.t ?_ | refine Br.f ?_ | refine ⟨rfl, ?_⟩)
          conv => whnf
          refine Br.mk (fun g => ?_) (fun g => ?_)
          · subst g
            repeat ((conv => whnf); first | refine Br.t ?_ | refine Br.f ?_ | refine ⟨rfl, ?_⟩)
            conv => whnf
            refine CallW.mono (c2.pure _ rfl rfl) ?_
            rintro r st' ⟨rfl, rfl⟩
            repeat ((conv => whnf); first | refine Br.t ?_ | refine Br.f ?_ | refine ⟨rfl, ?_⟩)
            conv => whnf
            refine fin (target := []) rfl (by simp) (by simp) rfl rfl
          · subst g
            repeat ((conv => whnf); first | refine Br.t ?_ | refine Br.f ?_ | refine ⟨rfl, ?_⟩)
            conv => whnf
            refine fin (target := []) rfl (by simp) (by simp) rfl rfl
        · subst g
          repeat ((conv => whnf); first | refine Br.t ?_ | refine Br.f ?_ | refine ⟨rfl, ?_⟩)
          conv => whnf
          refine fin (target := []) rfl (by simp) (by simp) rfl rfl
      · subst g
        repeat ((conv => whnf); first | refine Br.t ?_ | refine Br.f ?_ | refine ⟨rfl, ?_⟩)
        conv => whnf
        refine fin (target := []) rfl (by simp) (by simp) rfl rfl
    · subst g
      repeat ((conv => whnf); first | refine Br.t ?_ | refine Br.f ?_ | refine ⟨rfl, ?_⟩)
      conv => whnf
      refine fin (target := []) rfl (by simp) (by simp) rfl rfl
  · subst g
    repeat ((conv => whnf); first | refine Br.t ?_ | refine Br.f ?_ | refine ⟨rfl, ?_⟩)
    conv => whnf
    refine fin (target := []) rfl (by simp) (by simp) rfl rfl
end Go.Proofs.YtdbmfnhbgacldaaDoor.Am

/- Contracts: whether two certificates are alike; the law of it. -/
namespace Go.Proofs.YtdbmfnhbgacldaaDoor.Am
set_option autoImplicit false
set_option linter.unusedVariables false
set_option linter.unusedSimpArgs false
set_option maxRecDepth 100000
set_option pp.maxSteps 3000
set_option pp.proofs false
def ef (L M : List Sec) (i : Nat) : List V := [.undef, .i (.sl (M.map encSec)), .fn (.func 78) [] [], .undef, .undef, .undef, .undef, .undef, .undef, .undef, .undef, .undef, .undef, .undef, .undef, .i (.sl (L.map encSec)), .i (.int .i64 L.length), .i (.int .i64 i)] ++ List.replicate 14 .undef
def smallS (L : List Sec) : Prop := ∀ x ∈ L, x.2.2.1.length ≤ 9223372036854775807 ∧ x.2.2.2.2.2.length ≤ 9223372036854775807
set_option maxHeartbeats 8000000 in
theorem efunc77 (L M : List Sec) (hl : L.length ≤ 9223372036854775807) (hm : M.length ≤ 9223372036854775807) (hL : smallS L) (hM : smallS M) : CallW Tryd.prog G0 77 [.i (.sl (L.map encSec)), .i (.sl (M.map encSec)), .fn (.func 78) [] []] [] (fun r st' => r = .i (.bool (decide (L = M))) ∧ st' = []) := by
  refine call_of_bodyF 0 (Nat.le_refl _) Tryd.func77 rfl (fun a w => Tryd.call77 a w) (wpx_ok (own := own0) _ _ _ ?_)
  repeat ((conv => whnf); first | refine Br.t ?_ | refine Br.f ?_ | refine ⟨rfl, ?_⟩)
  conv => whnf
  refine Br.mk (fun h => ?_) (fun h => ?_)
  · have h : L.length ≠ M.length := by simp at h; omega
    rw [decide_eq_false (fun e => h (by rw [e]))]
    repeat ((conv => whnf); first | refine Br.t ?_ | refine Br.f ?_ | refine ⟨rfl, ?_⟩)
    conv => whnf
    refine fin (target := []) rfl (Nat.zero_le _) (by simp) rfl rfl
  · have hlm : L.length = M.length := by simp at h; omega
    obtain ⟨R, hR⟩ : ∃ R, R = decide (L = M) := ⟨_, rfl⟩
    rw [← hR]
    repeat ((conv => whnf); first | refine Br.t ?_ | refine Br.f ?_ | refine ⟨rfl, ?_⟩)
    conv => whnf
    refine loop_ok (α := Nat) (fun i => ⟨ef L M i, []⟩)
      (fun i => i ≤ L.length ∧ decide (L.drop i = M.drop i) = R) (fun i => L.length - i) 0 ⟨Nat.zero_le _, hR.symm⟩ (Le.slots (by simp [leS, ef])) (fun i hi => wpx_ok (own := own0) _ _ _ ?_)
    obtain ⟨h1, h2⟩ := hi
    repeat ((conv => whnf); first | refine Br.t ?_ | refine Br.f ?_ | refine ⟨rfl, ?_⟩)
    conv => whnf
    refine Br.mk (fun g => ?_) (fun g => ?_)
    · have g : i < L.length := by simpa using g
      obtain ⟨x, hx⟩ : ∃ x, x = L[i] := ⟨_, rfl⟩
      obtain ⟨y, hy⟩ : ∃ y, y = M[i]'(by omega) := ⟨_, rfl⟩
      have ex : (L.map encSec).getD (i : Int).toNat [] = encSec x := by rw [hx]; exact getD_enc g
      have ey : (M.map encSec).getD (i : Int).toNat [] = encSec y := by rw [hy]; exact getD_enc (by omega)
      have edx : L.drop i = x :: L.drop (i + 1) := by rw [hx]; exact List.drop_eq_getElem_cons g
      have edy : M.drop i = y :: M.drop (i + 1) := by rw [hy]; exact List.drop_eq_getElem_cons (by omega)
      have ca := alike78 x y (hL x (hx ▸ List.getElem_mem g)) (hM y (hy ▸ List.getElem_mem (by omega)))
      rw [edx, edy] at h2
      repeat ((conv => whnf); first | refine Br.t ?_ | refine Br.f ?_ | refine ⟨rfl, ?_⟩)
      conv => whnf
      refine ⟨⟨by omega, by simp; omega, by rw [ex]; rfl⟩, ?_⟩
      rw [ex]
      repeat ((conv => whnf); first | refine Br.t ?_ | refine Br.f ?_ | refine ⟨rfl, ?_⟩)
      conv => whnf
      refine ⟨⟨by omega, by simp; omega, by rw [ey]; rfl⟩, ?_⟩
      rw [ey]
      repeat ((conv => whnf); first | refine Br.t ?_ | refine Br.f ?_ | refine ⟨rfl, ?_⟩)
      conv => whnf
      refine CallW.mono (ca.pure _ rfl rfl) ?_
      rintro r st' ⟨rfl, rfl⟩
      repeat ((conv => whnf); first | refine Br.t ?_ | refine Br.f ?_ | refine ⟨rfl, ?_⟩)
      conv => whnf
      refine Br.mk (fun h => ?_) (fun h => ?_)
      · have hxy : x ≠ y := by simpa using h
        have hRf : R = false := by rw [← h2]; simp [hxy]
        rw [hRf]
        repeat ((conv => whnf); first | refine Br.t ?_ | refine Br.f ?_ | refine ⟨rfl, ?_⟩)
        conv => whnf
        refine fin (target := []) rfl (Nat.zero_le _) (by simp) rfl rfl
      · have hxy : x = y := by simpa using h
        repeat ((conv => whnf); first | refine Br.t ?_ | refine Br.f ?_ | refine ⟨rfl, ?_⟩)
        conv => whnf
        refine ⟨i + 1, ⟨by omega, by rw [← h2, hxy]; simp⟩, by omega, ?_⟩
        refine Le.trans (s' := ⟨ef L M (i + 1), [] ++ [secR x, secR y]⟩) (Le.slE ?_ rfl) (Le.short (Nat.zero_le _) rfl (by simp))
        simp [leS, ef]
        exact i64_id (by omega) (by omega)
    · have g : i = L.length := by simp at g; omega
      have hRt : R = true := by rw [← h2, g, List.drop_length, hlm, List.drop_length]; rfl
      rw [hRt]
      repeat ((conv => whnf); first | refine Br.t ?_ | refine Br.f ?_ | refine ⟨rfl, ?_⟩)
      conv => whnf
      refine fin (target := []) rfl (Nat.zero_le _) (by simp) rfl rfl
theorem arr_eq (d0 d1 d2 d3 d4 d5 d6 d7 d8 d9 d10 d11 d12 d13 d14 d15 d16 d17 d18 d19 d20 d21 d22 d23 d24 d25 d26 d27 d28 d29 d30 d31 e0 e1 e2 e3 e4 e5 e6 e7 e8 e9 e10 e11 e12 e13 e14 e15 e16 e17 e18 e19 e20 e21 e22 e23 e24 e25 e26 e27 e28 e29 e30 e31 : Nat) : (((d0 : Nat) : Int) == ((e0 : Nat) : Int) && (((d1 : Nat) : Int) == ((e1 : Nat) : Int) && (((d2 : Nat) : Int) == ((e2 : Nat) : Int) && (((d3 : Nat) : Int) == ((e3 : Nat) : Int) && (((d4 : Nat) : Int) == ((e4 : Nat) : Int) && (((d5 : Nat) : Int) == ((e5 : Nat) : Int) && (((d6 : Nat) : Int) == ((e6 : Nat) : Int) && (((d7 : Nat) : Int) == ((e7 : Nat) : Int) && (((d8 : Nat) : Int) == ((e8 : Nat) : Int) && (((d9 : Nat) : Int) == ((e9 : Nat) : Int) && (((d10 : Nat) : Int) == ((e10 : Nat) : Int) && (((d11 : Nat) : Int) == ((e11 : Nat) : Int) && (((d12 : Nat) : Int) == ((e12 : Nat) : Int) && (((d13 : Nat) : Int) == ((e13 : Nat) : Int) && (((d14 : Nat) : Int) == ((e14 : Nat) : Int) && (((d15 : Nat) : Int) == ((e15 : Nat) : Int) && (((d16 : Nat) : Int) == ((e16 : Nat) : Int) && (((d17 : Nat) : Int) == ((e17 : Nat) : Int) && (((d18 : Nat) : Int) == ((e18 : Nat) : Int) && (((d19 : Nat) : Int) == ((e19 : Nat) : Int) && (((d20 : Nat) : Int) == ((e20 : Nat) : Int) && (((d21 : Nat) : Int) == ((e21 : Nat) : Int) && (((d22 : Nat) : Int) == ((e22 : Nat) : Int) && (((d23 : Nat) : Int) == ((e23 : Nat) : Int) && (((d24 : Nat) : Int) == ((e24 : Nat) : Int) && (((d25 : Nat) : Int) == ((e25 : Nat) : Int) && (((d26 : Nat) : Int) == ((e26 : Nat) : Int) && (((d27 : Nat) : Int) == ((e27 : Nat) : Int) && (((d28 : Nat) : Int) == ((e28 : Nat) : Int) && (((d29 : Nat) : Int) == ((e29 : Nat) : Int) && (((d30 : Nat) : Int) == ((e30 : Nat) : Int) && (((d31 : Nat) : Int) == ((e31 : Nat) : Int) && true)))))))))))))))))))))))))))))))) = decide (l32 d0 d1 d2 d3 d4 d5 d6 d7 d8 d9 d10 d11 d12 d13 d14 d15 d16 d17 d18 d19 d20 d21 d22 d23 d24 d25 d26 d27 d28 d29 d30 d31 = l32 e0 e1 e2 e3 e4 e5 e6 e7 e8 e9 e10 e11 e12 e13 e14 e15 e16 e17 e18 e19 e20 e21 e22 e23 e24 e25 e26 e27 e28 e29 e30 e31) := by
  rw [Bool.eq_iff_iff]
  simp only [Bool.and_eq_true, beq_iff_eq, Int.ofNat_inj, decide_eq_true_eq, l32, List.cons.injEq, and_true]
def sameCt (a b : Ct) : Bool := decide (a.d = b.d) && (decide (a.ss = b.ss) && decide (a.js = b.js))
theorem sameCt_iff {a b : Ct} : sameCt a b = true ↔ a = b := by
  obtain ⟨d, ss, js⟩ := a
  obtain ⟨d', ss', js'⟩ := b
  simp only [sameCt, Bool.and_eq_true, decide_eq_true_eq, Ct.mk.injEq]
set_option maxHeartbeats 8000000 in
theorem same48 (a b : Ct) (ha : a.d.length = 32) (hb : b.d.length = 32) (h1 : a.ss.length ≤ 9223372036854775807) (h2 : b.ss.length ≤ 9223372036854775807) (h3 : a.js.length ≤ 9223372036854775807) (h4 : b.js.length ≤ 9223372036854775807) (h5 : smallS a.ss) (h6 : smallS b.ss) :
    CallW Tryd.prog G0 48 [ctV a, ctV b] [] (fun r st' => r = .i (.bool (sameCt a b)) ∧ st' = []) := by
  refine call_of_bodyF 0 (Nat.le_refl _) Tryd.func48 rfl (fun a w => Tryd.call48 a w) (wpx_ok (own := own0) _ _ _ ?_)
  have c1 := efunc77 a.ss b.ss h1 h2 h5 h6
  have c2 := equalJ79 a.js b.js h3 h4
  obtain ⟨d, ss, js⟩ := a
  obtain ⟨d', ss', js'⟩ := b
  simp only at ha hb c1 c2
  unfold sameCt
  simp only
  obtain ⟨d0, d1, d2, d3, d4, d5, d6, d7, d8, d9, d10, d11, d12, d13, d14, d15, d16, d17, d18, d19, d20, d21, d22, d23, d24, d25, d26, d27, d28, d29, d30, d31, hd⟩ := list32 ha
  replace hd : d = l32 d0 d1 d2 d3 d4 d5 d6 d7 d8 d9 d10 d11 d12 d13 d14 d15 d16 d17 d18 d19 d20 d21 d22 d23 d24 d25 d26 d27 d28 d29 d30 d31 := hd
  subst hd
  obtain ⟨e0, e1, e2, e3, e4, e5, e6, e7, e8, e9, e10, e11, e12, e13, e14, e15, e16, e17, e18, e19, e20, e21, e22, e23, e24, e25, e26, e27, e28, e29, e30, e31, hd⟩ := list32 hb
  replace hd : d' = l32 e0 e1 e2 e3 e4 e5 e6 e7 e8 e9 e10 e11 e12 e13 e14 e15 e16 e17 e18 e19 e20 e21 e22 e23 e24 e25 e26 e27 e28 e29 e30 e31 := hd
  subst hd
  have k1 := arr_eq d0 d1 d2 d3 d4 d5 d6 d7 d8 d9 d10 d11 d12 d13 d14 d15 d16 d17 d18 d19 d20 d21 d22 d23 d24 d25 d26 d27 d28 d29 d30 d31 e0 e1 e2 e3 e4 e5 e6 e7 e8 e9 e10 e11 e12 e13 e14 e15 e16 e17 e18 e19 e20 e21 e22 e23 e24 e25 e26 e27 e28 e29 e30 e31
  generalize decide (l32 d0 d1 d2 d3 d4 d5 d6 d7 d8 d9 d10 d11 d12 d13 d14 d15 d16 d17 d18 d19 d20 d21 d22 d23 d24 d25 d26 d27 d28 d29 d30 d31 = l32 e0 e1 e2 e3 e4 e5 e6 e7 e8 e9 e10 e11 e12 e13 e14 e15 e16 e17 e18 e19 e20 e21 e22 e23 e24 e25 e26 e27 e28 e29 e30 e31) = b1 at k1 ⊢
  generalize decide (ss = ss') = b2 at c1 ⊢
  generalize decide (js = js') = b3 at c2 ⊢
  repeat ((conv => whnf); first | refine Br.t ?_ | refine Br.f ?_ | refine ⟨rfl, ?_⟩)
  conv => whnf
  rw [k1]
  refine Br.mk (fun g => ?_) (fun g => ?_)
  · subst g
    repeat ((conv => whnf); first | refine Br.t ?_ | refine Br.f ?_ | refine ⟨rfl, ?_⟩)
    conv => whnf
    refine CallW.mono (c1.pure _ rfl rfl) ?_
    rintro r st' ⟨rfl, rfl⟩
    repeat ((conv => whnf); first | refine Br.t ?_ | refine Br.f ?_ | refine ⟨rfl, ?_⟩)
    conv => whnf
    refine Br.mk (fun g => ?_) (fun g => ?_)
    · subst g
      repeat ((conv => whnf); first | refine Br.t ?_ | refine Br.f ?_ | refine ⟨rfl, ?_⟩)
      conv => whnf
      refine CallW.mono (c2.pure _ rfl rfl) ?_
      rintro r st' ⟨rfl, rfl⟩
      repeat ((conv => whnf); first | refine Br.t ?_ | refine Br.f ?_ | refine ⟨rfl, ?_⟩)
      conv => whnf
      refine fin (target := []) rfl (by simp) (by simp) rfl rfl
    · subst g
      repeat ((conv => whnf); first | refine Br.t ?_ | refine Br.f ?_ | refine ⟨rfl, ?_⟩)
      conv => whnf
      refine fin (target := []) rfl (by simp) (by simp) rfl rfl
  · subst g
    repeat ((conv => whnf); first | refine Br.t ?_ | refine Br.f ?_ | refine ⟨rfl, ?_⟩)
    conv => whnf
    refine fin (target := []) rfl (by simp) (by simp) rfl rfl
end Go.Proofs.YtdbmfnhbgacldaaDoor.Am

/- Contracts: certificates that may be are alike just if their bytes are. -/
namespace Go.Proofs.YtdbmfnhbgacldaaDoor.Am
set_option autoImplicit false
set_option linter.unusedVariables false
set_option linter.unusedSimpArgs false
set_option maxRecDepth 100000
set_option pp.maxSteps 3000
set_option pp.proofs false
theorem bytes_inj : ∀ {X Y : List Nat}, (∀ x ∈ X, x < 256) → (∀ x ∈ Y, x < 256) → (lift (X.map by8)).map byteOf = (lift (Y.map by8)).map byteOf → X = Y
  | [], [], _, _, _ => rfl
  | [], _ :: _, _, _, h => by simp [lift] at h
  | _ :: _, [], _, _, h => by simp [lift] at h
  | x :: X, y :: Y, hx, hy, h => by
    simp only [lift, List.map_cons, List.cons.injEq] at h
    have h1 : UInt8.ofNat x = UInt8.ofNat y := h.1
    have h2 := congrArg UInt8.toNat h1
    rw [UInt8.toNat_ofNat', UInt8.toNat_ofNat', Nat.mod_eq_of_lt (hx x (by simp)), Nat.mod_eq_of_lt (hy y (by simp))] at h2
    rw [h2, bytes_inj (fun z hz => hx z (by simp [hz])) (fun z hz => hy z (by simp [hz])) h.2]
theorem str_eq {X Y : List Nat} (hx : ∀ x ∈ X, x < 256) (hy : ∀ x ∈ Y, x < 256) : ((ByteArray.mk (((lift (X.map by8)).map byteOf).toArray)).data.toList == (ByteArray.mk (((lift (Y.map by8)).map byteOf).toArray)).data.toList) = decide (X = Y) := by
  rw [Bool.eq_iff_iff, beq_iff_eq, decide_eq_true_eq]
  constructor
  · intro h; exact bytes_inj hx hy (by simpa using h)
  · rintro rfl; rfl
structure ArgT (c : Ct) : Prop where
  d : c.d.length = 32
  b : ∀ x ∈ c.d, x < 256
  n : c.ss.length ≤ 9223372036854775807
  m : c.js.length ≤ 9223372036854775807
  s : okM c
theorem smallS_of {c : Ct} (h : OkT c) : smallS c.ss := fun x hx => by
  obtain ⟨_, _, ⟨h3, _⟩, _, _, h7, _⟩ := h.s x hx
  exact ⟨by omega, by omega⟩
set_option maxHeartbeats 8000000 in
theorem ccodealike (a b : Ct) (ha : ArgT a) (hb : ArgT b) :
    CallW Tryd.prog (Gk (some tz) KEYS) 9 [ctV a, ctV b] [] (fun r st' => r = .i (.bool true) ∧ st' = []) := by
  refine call_of_bodyF 0 (Nat.le_refl _) Tryd.func9 rfl (fun a w => Tryd.call9 a w) (wpx_ok (own := own0) _ _ _ ?_)
  have okA := okT_of ha.d ha.b ha.n ha.m ha.s
  have okB := okT_of hb.d hb.b hb.n hb.m hb.s
  have fa := few44 a ha.d ha.n ha.m
  have fb := few44 b hb.d hb.n hb.m
  have wa := fun h => ccwrite45 a (okA h)
  have wb := fun h => ccwrite45 b (okB h)
  have cs := fun h k => same48 a b ha.d hb.d ha.n hb.n ha.m hb.m (smallS_of (okA h)) (smallS_of (okB k))
  have fin_ : (chkT a).2 = 0 → (chkT b).2 = 0 → decide (certN a = certN b) = sameCt a b := fun h k => by
    rw [Bool.eq_iff_iff, decide_eq_true_eq, sameCt_iff]
    exact ⟨fun e => certN_inj (chkT_zero h) (chkT_zero k) ha.d hb.d e, fun e => by rw [e]⟩
  have sx := str_eq (certN_byte ha.b) (certN_byte hb.b)
  obtain ⟨d, ss, js⟩ := a
  obtain ⟨d', ss', js'⟩ := b
  have hd1 := ha.d
  have hd2 := hb.d
  simp only at hd1 hd2
  obtain ⟨d0, d1, d2, d3, d4, d5, d6, d7, d8, d9, d10, d11, d12, d13, d14, d15, d16, d17, d18, d19, d20, d21, d22, d23, d24, d25, d26, d27, d28, d29, d30, d31, hd⟩ := list32 hd1
  replace hd : d = l32 d0 d1 d2 d3 d4 d5 d6 d7 d8 d9 d10 d11 d12 d13 d14 d15 d16 d17 d18 d19 d20 d21 d22 d23 d24 d25 d26 d27 d28 d29 d30 d31 := hd
  subst hd
  obtain ⟨e0, e1, e2, e3, e4, e5, e6, e7, e8, e9, e10, e11, e12, e13, e14, e15, e16, e17, e18, e19, e20, e21, e22, e23, e24, e25, e26, e27, e28, e29, e30, e31, hd⟩ := list32 hd2
  replace hd : d' = l32 e0 e1 e2 e3 e4 e5 e6 e7 e8 e9 e10 e11 e12 e13 e14 e15 e16 e17 e18 e19 e20 e21 e22 e23 e24 e25 e26 e27 e28 e29 e30 e31 := hd
  subst hd
  clear okA okB hd1 hd2 ha hb
  generalize sameCt ⟨l32 d0 d1 d2 d3 d4 d5 d6 d7 d8 d9 d10 d11 d12 d13 d14 d15 d16 d17 d18 d19 d20 d21 d22 d23 d24 d25 d26 d27 d28 d29 d30 d31, ss, js⟩ ⟨l32 e0 e1 e2 e3 e4 e5 e6 e7 e8 e9 e10 e11 e12 e13 e14 e15 e16 e17 e18 e19 e20 e21 e22 e23 e24 e25 e26 e27 e28 e29 e30 e31, ss', js'⟩ = SB at cs fin_
  generalize (chkT ⟨l32 d0 d1 d2 d3 d4 d5 d6 d7 d8 d9 d10 d11 d12 d13 d14 d15 d16 d17 d18 d19 d20 d21 d22 d23 d24 d25 d26 d27 d28 d29 d30 d31, ss, js⟩).2 = ca at wa fin_
  generalize (chkT ⟨l32 e0 e1 e2 e3 e4 e5 e6 e7 e8 e9 e10 e11 e12 e13 e14 e15 e16 e17 e18 e19 e20 e21 e22 e23 e24 e25 e26 e27 e28 e29 e30 e31, ss', js'⟩).2 = cb at wb fin_
  generalize certN ⟨l32 d0 d1 d2 d3 d4 d5 d6 d7 d8 d9 d10 d11 d12 d13 d14 d15 d16 d17 d18 d19 d20 d21 d22 d23 d24 d25 d26 d27 d28 d29 d30 d31, ss, js⟩ = X at wa fin_ sx
  generalize certN ⟨l32 e0 e1 e2 e3 e4 e5 e6 e7 e8 e9 e10 e11 e12 e13 e14 e15 e16 e17 e18 e19 e20 e21 e22 e23 e24 e25 e26 e27 e28 e29 e30 e31, ss', js'⟩ = Y at wb fin_ sx
  repeat ((conv => whnf); first | refine Br.t ?_ | refine Br.f ?_ | refine ⟨rfl, ?_⟩)
  conv => whnf
  refine CallW.mono (awake19.pure _ rfl rfl) ?_
  rintro r st' ⟨rfl, rfl⟩
  repeat ((conv => whnf); first | refine Br.t ?_ | refine Br.f ?_ | refine ⟨rfl, ?_⟩)
  conv => whnf
  refine CallW.mono (fa.glob.pure _ rfl rfl) ?_
  rintro r st' ⟨rfl, rfl⟩
  repeat ((conv => whnf); first | refine Br.t ?_ | refine Br.f ?_ | refine ⟨rfl, ?_⟩)
  conv => whnf
  refine Br.mk (fun z => ?_) (fun z => ?_)
  · repeat ((conv => whnf); first | refine Br.t ?_ | refine Br.f ?_ | refine ⟨rfl, ?_⟩)
    conv => whnf
    refine CallW.mono (awake19.pure _ rfl rfl) ?_
    rintro r st' ⟨rfl, rfl⟩
    repeat ((conv => whnf); first | refine Br.t ?_ | refine Br.f ?_ | refine ⟨rfl, ?_⟩)
    conv => whnf
    refine fin (target := []) rfl (Nat.zero_le _) (by simp) rfl rfl
  have hf : fewB ⟨l32 d0 d1 d2 d3 d4 d5 d6 d7 d8 d9 d10 d11 d12 d13 d14 d15 d16 d17 d18 d19 d20 d21 d22 d23 d24 d25 d26 d27 d28 d29 d30 d31, ss, js⟩ = true := by simpa using z
  have wa := wa hf
  repeat ((conv => whnf); first | refine Br.t ?_ | refine Br.f ?_ | refine ⟨rfl, ?_⟩)
  conv => whnf
  refine CallW.mono (fb.glob.pure _ rfl rfl) ?_
  rintro r st' ⟨rfl, rfl⟩
  repeat ((conv => whnf); first | refine Br.t ?_ | refine Br.f ?_ | refine ⟨rfl, ?_⟩)
  conv => whnf
  refine Br.mk (fun z => ?_) (fun z => ?_)
  · repeat ((conv => whnf); first | refine Br.t ?_ | refine Br.f ?_ | refine ⟨rfl, ?_⟩)
    conv => whnf
    refine CallW.mono (awake19.pure _ rfl rfl) ?_
    rintro r st' ⟨rfl, rfl⟩
    repeat ((conv => whnf); first | refine Br.t ?_ | refine Br.f ?_ | refine ⟨rfl, ?_⟩)
    conv => whnf
    refine fin (target := []) rfl (Nat.zero_le _) (by simp) rfl rfl
  have hg : fewB ⟨l32 e0 e1 e2 e3 e4 e5 e6 e7 e8 e9 e10 e11 e12 e13 e14 e15 e16 e17 e18 e19 e20 e21 e22 e23 e24 e25 e26 e27 e28 e29 e30 e31, ss', js'⟩ = true := by simpa using z
  have wb := wb hg
  have cs := cs hf hg
  by_cases ga : ca = 0
  · subst ga
    rw [if_pos rfl] at wa
    by_cases gb : cb = 0
    · subst gb
      rw [if_pos rfl] at wb
      have fin_ := fin_ rfl rfl
      repeat ((conv => whnf); first | refine Br.t ?_ | refine Br.f ?_ | refine ⟨rfl, ?_⟩)
      conv => whnf
      refine CallW.mono (wa.pure _ rfl rfl) ?_
      rintro r st' ⟨rfl, rfl⟩
      simp only [ckV]
      repeat ((conv => whnf); first | refine Br.t ?_ | refine Br.f ?_ | refine ⟨rfl, ?_⟩)
      conv => whnf
      refine CallW.mono (wb.pure _ rfl rfl) ?_
      rintro r st' ⟨rfl, rfl⟩
      simp only [ckV]
      repeat ((conv => whnf); first | refine Br.t ?_ | refine Br.f ?_ | refine ⟨rfl, ?_⟩)
      conv => whnf
      refine draw_ok (own := own0) [] [] [(.i (.bool SB), [ctR ⟨l32 d0 d1 d2 d3 d4 d5 d6 d7 d8 d9 d10 d11 d12 d13 d14 d15 d16 d17 d18 d19 d20 d21 d22 d23 d24 d25 d26 d27 d28 d29 d30 d31, ss, js⟩, ctR ⟨l32 e0 e1 e2 e3 e4 e5 e6 e7 e8 e9 e10 e11 e12 e13 e14 e15 e16 e17 e18 e19 e20 e21 e22 e23 e24 e25 e26 e27 e28 e29 e30 e31, ss', js'⟩])] rfl (by kernel_rfl) (Nat.zero_le _) ?_
      repeat ((conv => whnf); first | refine Br.t ?_ | refine Br.f ?_ | refine ⟨rfl, ?_⟩)
      conv => whnf
      refine ⟨isB_ok (isB_map X), ?_⟩
      repeat ((conv => whnf); first | refine Br.t ?_ | refine Br.f ?_ | refine ⟨rfl, ?_⟩)
      conv => whnf
      refine ⟨isB_ok (isB_map Y), ?_⟩
      repeat ((conv => whnf); first | refine Br.t ?_ | refine Br.f ?_ | refine ⟨rfl, ?_⟩)
      conv => whnf
      refine ⟨cs.glob.pure _ rfl rfl, ?_⟩
      repeat ((conv => whnf); first | refine Br.t ?_ | refine Br.f ?_ | refine ⟨rfl, ?_⟩)
      conv => whnf
      refine ⟨by repeat ((conv => whnf); first | exact trivial | refine ⟨rfl, ?_⟩), trivial, ?_⟩
      conv => whnf
      repeat ((conv => whnf); first | refine Br.t ?_ | refine Br.f ?_ | refine ⟨rfl, ?_⟩)
      conv => whnf
      refine fin (target := []) rfl (Nat.zero_le _) (by simp) ?_ rfl
      show V.i (I.bool (((ByteArray.mk (((lift (X.map by8)).map byteOf).toArray)).data.toList == (ByteArray.mk (((lift (Y.map by8)).map byteOf).toArray)).data.toList) == SB)) = _
      rw [sx, fin_]
      simp
    · repeat ((conv => whnf); first | refine Br.t ?_ | refine Br.f ?_ | refine ⟨rfl, ?_⟩)
      conv => whnf
      refine CallW.mono (wa.pure _ rfl rfl) ?_
      rintro r st' ⟨rfl, rfl⟩
      simp only [ckV]
      repeat ((conv => whnf); first | refine Br.t ?_ | refine Br.f ?_ | refine ⟨rfl, ?_⟩)
      conv => whnf
      refine CallW.mono (wb.pure _ rfl rfl) ?_
      rintro r st' ⟨rfl, rfl⟩
      simp only [ckV]
      repeat ((conv => whnf); first | refine Br.t ?_ | refine Br.f ?_ | refine ⟨rfl, ?_⟩)
      conv => whnf
      refine Br.mk (fun g => ?_) (fun g => ?_)
      · repeat ((conv => whnf); first | refine Br.t ?_ | refine Br.f ?_ | refine ⟨rfl, ?_⟩)
        conv => whnf
        refine fin (target := []) rfl (Nat.zero_le _) (by simp) rfl rfl
      · exact absurd (by simpa using g) gb
  · repeat ((conv => whnf); first | refine Br.t ?_ | refine Br.f ?_ | refine ⟨rfl, ?_⟩)
    conv => whnf
    refine CallW.mono (wa.pure _ rfl rfl) ?_
    rintro r st' ⟨rfl, rfl⟩
    simp only [ckV]
    repeat ((conv => whnf); first | refine Br.t ?_ | refine Br.f ?_ | refine ⟨rfl, ?_⟩)
    conv => whnf
    refine CallW.mono (wb.pure _ rfl rfl) ?_
    rintro r st' ⟨rfl, rfl⟩
    simp only [ckV]
    repeat ((conv => whnf); first | refine Br.t ?_ | refine Br.f ?_ | refine ⟨rfl, ?_⟩)
    conv => whnf
    refine Br.mk (fun g => ?_) (fun g => ?_)
    · repeat ((conv => whnf); first | refine Br.t ?_ | refine Br.f ?_ | refine ⟨rfl, ?_⟩)
      conv => whnf
      refine fin (target := []) rfl (Nat.zero_le _) (by simp) rfl rfl
    · exact absurd (by simpa using g) ga
end Go.Proofs.YtdbmfnhbgacldaaDoor.Am

/- The table in its variable: what a row's condition gives for the logic. -/
namespace Go.Proofs.YtdbmfnhbgacldaaDoor.Am
open Go.ChangeShapes Go.WideShapes Go.RowKit
set_option autoImplicit false
set_option maxRecDepth 10000
/-- The de Bruijn table lies in its variable. -/
def TabOk (w : World) : Prop := ∀ j, j < 32 → w.cell? ⟨0, j, none⟩ = some (.int .u8 (Lib.deBruijn32tab.getD j 0))
theorem tab_ok {W : World} {rest : List (String × DataW Unit)} (h : laidMet Tryd.prog (("math/bits.deBruijn32tab", .agg ((Lib.deBruijn32tab.map fun (n : Nat) => (n : Int)).map fun z => .lit (.int .u8 z))) :: rest) W) : TabOk W := by
  have hT := Lib.tabIs_of_head (k := .u8) (zs := Lib.deBruijn32tab.map fun (n : Nat) => (n : Int)) (show Tryd.prog.globalNamed "math/bits.deBruijn32tab" = some 0 by kernel_rfl) rfl Tryd.underlying60 Tryd.underlying5 (by kernel_rfl) (by kernel_rfl) h
  intro j hj
  have := hT.cell (show Tryd.prog.globalNamed "math/bits.deBruijn32tab" = some 0 by kernel_rfl) j (by simpa [Lib.deBruijn32tab] using hj)
  rw [this]
  congr 2
  simp [List.getD_eq_getElem?_getD, List.getElem?_map]
  cases h : Lib.deBruijn32tab[j]? <;> simp
theorem gok_of_tab {W : World} (h : TabOk W) : GOk everyD G1 noMu [] W := by
  intro g cs hg
  unfold G1 at hg
  split at hg
  · rename_i h0
    subst h0
    cases hg
    refine ⟨inW_qd ?_, fun j => .int .u8 (Lib.deBruijn32tab.getD j 0), fun j v hj => ?_, fun j v hj => ?_⟩
    · exact World.block_lt_of_cell? W _ (h 0 (by decide))
    · have hlt := lt_of_get? hj
      exact h j (by simpa [tz, Lib.deBruijn32tab] using hlt)
    · simp only [tz, List.getElem?_map, Option.map_eq_some_iff] at hj
      obtain ⟨n, hn, rfl⟩ := hj
      have e : Lib.deBruijn32tab.getD j 0 = n := by rw [List.getD_eq_getElem?_getD, hn]; rfl
      show irel _ W (I.int .u8 n) (.int .u8 (Lib.deBruijn32tab.getD j 0 : Nat))
      rw [e]
      exact .int .u8 n
  · cases hg
end Go.Proofs.YtdbmfnhbgacldaaDoor.Am

/- The keys in their variable: what a row's condition gives for the logic. -/
namespace Go.Proofs.YtdbmfnhbgacldaaDoor.Am
open Go.ChangeShapes Go.WideShapes Go.RowKit
set_option autoImplicit false
set_option maxRecDepth 100000
/-- The keys lie in their variable. -/
def KeysOk (w : World) : Prop := ∀ j, j < 64 → w.cell? ⟨1, j, none⟩ = some (.int .u32 (KEYS.getD j 0))
theorem keys_ok {W : World} {rest : List (String × DataW Unit)} (h : laidMet Tryd.prog (("alibi/sha.keys", .agg ((KEYS.map fun (n : Nat) => (n : Int)).map fun z => .lit (.int .u32 z))) :: rest) W) : KeysOk W := by
  have hT := Lib.tabIs_of_head (k := .u32) (zs := KEYS.map fun (n : Nat) => (n : Int)) (show Tryd.prog.globalNamed "alibi/sha.keys" = some 1 by kernel_rfl) rfl Tryd.underlying156 Tryd.underlying28 (by kernel_rfl) (by kernel_rfl) h
  intro j hj
  have := hT.cell (show Tryd.prog.globalNamed "alibi/sha.keys" = some 1 by kernel_rfl) j (by simpa [KEYS_len] using hj)
  rw [this]
  congr 2
  simp [List.getD_eq_getElem?_getD, List.getElem?_map]
  cases h : KEYS[j]? <;> simp
theorem keys_rel {W : World} (h : KeysOk W) : inW W 1 ∧ ∃ xs : Nat → Value, (∀ j v, (KEYS.map u32I)[j]? = some v → W.cell? ⟨1, j, none⟩ = some (xs j)) ∧ ∀ j v, (KEYS.map u32I)[j]? = some v → irel (inW W) W v (xs j) := by
  refine ⟨World.block_lt_of_cell? W _ (h 0 (by decide)), fun j => .int .u32 (KEYS.getD j 0), fun j v hj => ?_, fun j v hj => ?_⟩
  · have hlt := lt_of_get? hj
    exact h j (by simpa [KEYS_len] using hlt)
  · simp only [List.getElem?_map, Option.map_eq_some_iff] at hj
    obtain ⟨n, hn, rfl⟩ := hj
    have e : KEYS.getD j 0 = n := by rw [List.getD_eq_getElem?_getD, hn]; rfl
    show irel _ W (I.int .u32 n) (.int .u32 (KEYS.getD j 0 : Nat))
    rw [e]
    exact .int .u32 n
theorem gok_of_keys {W : World} (h : KeysOk W) : GOk everyD (Gk none KEYS) noMu [] W := by
  intro g cs hg
  unfold Gk at hg
  split at hg
  · cases hg
  · split at hg
    · rename_i h0
      subst h0
      cases hg
      obtain ⟨h1, xs, h2, h3⟩ := keys_rel h
      refine ⟨inW_qd h1, fun j => .int .u32 (KEYS.getD j 0), fun j v hj => ?_, fun j v hj => ?_⟩
      · have hlt := lt_of_get? hj
        exact h j (by simpa [KEYS_len] using hlt)
      · simp only [List.getElem?_map, Option.map_eq_some_iff] at hj
        obtain ⟨n, hn, rfl⟩ := hj
        have e : KEYS.getD j 0 = n := by rw [List.getD_eq_getElem?_getD, hn]; rfl
        show irel _ W (I.int .u32 n) (.int .u32 (KEYS.getD j 0 : Nat))
        rw [e]
        exact .int .u32 n
    · cases hg
theorem gok_of_both {W : World} (ht : TabOk W) (h : KeysOk W) : GOk everyD (Gk (some tz) KEYS) noMu [] W := by
  intro g cs hg
  unfold Gk at hg
  split at hg
  · rename_i h0
    subst h0
    exact gok_of_tab ht 0 cs (by unfold G1; rw [if_pos rfl]; exact hg)
  · rename_i h0
    exact gok_of_keys h g cs (by unfold Gk; rw [if_neg h0]; exact hg)
end Go.Proofs.YtdbmfnhbgacldaaDoor.Am
