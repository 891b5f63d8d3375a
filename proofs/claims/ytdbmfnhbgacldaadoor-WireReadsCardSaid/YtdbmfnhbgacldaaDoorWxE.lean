/- Contracts: sets read. -/
import Derived.Test.YtdbmfnhbgacldaaDoorWxD
import Derived.Test.YtdbmfnhbgacldaaDoorAmRf
namespace Go.Proofs.YtdbmfnhbgacldaaDoor.Am
set_option autoImplicit false
set_option linter.unusedVariables false
set_option linter.unusedSimpArgs false
set_option maxRecDepth 10000
set_option pp.maxSteps 20000
set_option pp.proofs false
def lastI (l : List Nat) : Int := match l.getLast? with | none => -1 | some x => x
def setR : Nat → Int → List Nat → Rd → Nat × Rd
  | 0, _, l, s => (pows l, s)
  | n + 1, lim, l, s => if (s.num lim).2.why ≠ 0 then (0, (s.num lim).2) else if ((s.num lim).1 : Int) ≤ lastI l then (0, Rd.fail { (s.num lim).2 with p := s.p } 5) else setR n lim (l ++ [(s.num lim).1]) (s.num lim).2
def limI (size : Int) : Int := if 0 > (if 32 < size then 32 else size) then 0 else (if 32 < size then 32 else size)
def Rd.set (s : Rd) (size : Int) : Nat × Rd := setR (s.num (limI size)).1 (limI size - 1) [] (s.num (limI size)).2
theorem lastI_nil : lastI [] = -1 := rfl
theorem lift_getD {α : Type} (f : α → List I) (xs : List α) {i : Nat} (h : i < xs.length) : (lift (xs.map f)).getD i [] = (f xs[i]).map V.i := by
  simp [lift, List.getD_eq_getElem?_getD, h]
theorem lastI_get {l : List Nat} {k : Nat} (hk : l.length = k) (h0 : 0 < k) : lastI l = (l[k - 1]'(by omega) : Nat) := by
  subst hk
  unfold lastI
  rw [List.getLast?_eq_getElem?, List.getElem?_eq_getElem (by omega)]
theorem lastI_snoc (l : List Nat) (x : Nat) : lastI (l ++ [x]) = x := by simp [lastI]
theorem last_rising : ∀ {l : List Nat}, l.Pairwise (· < ·) → ∀ (y : Nat), y ∈ l → (y : Int) ≤ lastI l := by
  intro l
  refine snoc_ind (P := fun l : List Nat => l.Pairwise (· < ·) → ∀ (y : Nat), y ∈ l → (y : Int) ≤ lastI l) ?_ ?_ l
  · intro _ y hy; simp at hy
  · intro l x ih hp y hy
    rw [lastI_snoc]
    rw [List.pairwise_append] at hp
    simp only [List.mem_append, List.mem_singleton] at hy
    rcases hy with hy | rfl
    · have := hp.2.2 y hy x (by simp); omega
    · omega
theorem snoc_rising {l : List Nat} {x : Nat} (hp : l.Pairwise (· < ·)) (h : ¬ (x : Int) ≤ lastI l) : (l ++ [x]).Pairwise (· < ·) := by
  rw [List.pairwise_append]
  refine ⟨hp, by simp, fun a ha b hb => ?_⟩
  simp only [List.mem_singleton] at hb
  subst hb
  have := last_rising hp a ha
  omega
theorem or_pow {l : List Nat} {x : Nat} (hp : l.Pairwise (· < ·)) (h : ¬ (x : Int) ≤ lastI l) : pows l ||| 2 ^ x = pows (l ++ [x]) := by
  have hlt : pows l < 2 ^ x := (pows_rising l x hp (fun i hi => by have := last_rising hp i hi; omega)).1
  have := Nat.two_pow_add_eq_or_of_lt hlt 1
  rw [Nat.mul_one] at this
  rw [pows_snoc, Nat.or_comm, ← this, Nat.add_comm]
theorem limI_le (size : Int) : 0 ≤ limI size ∧ limI size ≤ 32 := by unfold limI; omega
theorem num_le32 {s : Rd} (hok : s.ok) (size : Int) : (s.num (limI size)).1 ≤ 32 := by
  have := limI_le size
  by_cases h : (s.num (limI size)).2.why = 0
  · obtain ⟨n, e, hn, _⟩ := num_of hok h
    rw [e]; simp only; omega
  · have : (s.num (limI size)).1 = 0 := by
      unfold Rd.num at h ⊢
      split
      · rfl
      · rename_i h1
        rw [if_neg h1] at h
        split
        · rfl
        · rename_i h2
          rw [if_neg h2] at h
          split
          · rfl
          · rename_i h3
            rw [if_neg h3] at h
            simp only at h
            omega
    omega
theorem why_num0 {s : Rd} {mx : Int} (h : (s.num mx).2.why ≠ 0) : (s.num mx).1 = 0 := by
  unfold Rd.num at h ⊢
  split
  · rfl
  · rename_i h1
    rw [if_neg h1] at h
    split
    · rfl
    · rename_i h2
      rw [if_neg h2] at h
      split
      · rfl
      · rename_i h3
        rw [if_neg h3] at h
        simp only at h
        omega
set_option maxHeartbeats 1000000 in
theorem set29 (s : Rd) (hok : s.ok) (size : Int) (hsz : -9223372036854775808 ≤ size ∧ size ≤ 9223372036854775807) : CallW Tryd.prog G0 29 [.ptr 0 0 0 0, .i (.int .i64 size)] [rdB s] (fun r st' => r = .i (.int .u32 (s.set size).1) ∧ st' = [rdB (s.set size).2]) := by
  refine call_of_bodyF 1 (Nat.le_refl _) Tryd.func29 rfl (fun a w => Tryd.call29 a w) (wpx_ok (own := own0) _ _ _ ?_)
  have hl := limI_le size
  have h32 := num_le32 hok size
  have hok1 := num_ok hok (limI size)
  repeat ((conv => whnf); first | refine Br.t ?_ | refine Br.f ?_ | refine ⟨rfl, ?_⟩)
  conv => whnf
  refine CallW.mono (num37 s hok (limI size)) ?_
  rintro r st' ⟨rfl, rfl⟩
  repeat ((conv => whnf); first | refine Br.t ?_ | refine Br.f ?_ | refine ⟨rfl, ?_⟩)
  conv => whnf
  refine loop_ok (α := Nat × List Nat × Rd) (fun x => ⟨mkS 50 [(0, .ptr 0 0 0 0), (1, .i (.int .i64 size)), (4, .i (.int .u32 0)), (5, .i (.int .u32 (pows x.2.1 : Nat))), (6, .i (.int .i64 (lastI x.2.1))), (7, .i (.int .i64 x.1))], [rdB x.2.2]⟩)
    (fun x => x.2.2.ok ∧ x.2.1.Pairwise (· < ·) ∧ (∀ i ∈ x.2.1, i < 32) ∧ x.1 ≤ 32 ∧ setR x.1 (limI size - 1) x.2.1 x.2.2 = s.set size) (fun x => x.1) ((s.num (limI size)).1, [], (s.num (limI size)).2) ⟨hok1, List.Pairwise.nil, by simp, h32, rfl⟩
    (Le.slots (by simp [leS, mkS, pows, lastI])) (fun x hx => wpx_ok (own := own0) _ _ _ ?_)
  obtain ⟨k, l, s'⟩ := x
  obtain ⟨h1, h2, h3, h4, h5⟩ := hx
  simp only at h1 h2 h3 h4 h5
  dsimp only
  cases k with
  | zero =>
    rw [← h5]
    repeat ((conv => whnf); first | refine Br.t ?_ | refine Br.f ?_ | refine ⟨rfl, ?_⟩)
    conv => whnf
    refine fin (target := [rdB s']) rfl (Nat.le_refl _) (rdB_cl _) rfl rfl
  | succ k =>
    rw [setR] at h5
    have ew : IntKind.i64.wrap (limI size - 1) = limI size - 1 := i64_id (by omega) (by omega)
    repeat ((conv => whnf); first | refine Br.t ?_ | refine Br.f ?_ | refine ⟨rfl, ?_⟩)
    conv => whnf
    refine Br.mk (fun g0 => ?_) (fun g0 => by simp at g0)
    repeat ((conv => whnf); first | refine Br.t ?_ | refine Br.f ?_ | refine ⟨rfl, ?_⟩)
    conv => whnf
    have c := num37 s' h1 (limI size - 1)
    have hok2 := num_ok h1 (limI size - 1)
    obtain ⟨x, s2, e2⟩ : ∃ m s, s'.num (limI size - 1) = (m, s) := ⟨_, _, rfl⟩
    have hx0 : s2.why ≠ 0 ∨ (x : Int) ≤ limI size - 1 := by
      by_cases hw : s2.why = 0
      · obtain ⟨n, e, hn, _⟩ := num_of h1 (mx := limI size - 1) (by rw [e2]; exact hw)
        rw [e2] at e
        simp only [Prod.mk.injEq] at e
        right; omega
      · exact .inl hw
    rw [e2] at c h5 hok2
    simp only at c h5 hok2
    rw [← ew] at c
    refine CallW.mono c ?_
    rintro r st' ⟨rfl, rfl⟩
    repeat ((conv => whnf); first | refine Br.t ?_ | refine Br.f ?_ | refine ⟨rfl, ?_⟩)
    conv => whnf
    refine Br.mk (fun g1 => ?_) (fun g1 => ?_)
    · have g1 : s2.why ≠ 0 := by simpa using g1
      rw [if_pos g1] at h5
      rw [← h5]
      repeat ((conv => whnf); first | refine Br.t ?_ | refine Br.f ?_ | refine ⟨rfl, ?_⟩)
      conv => whnf
      refine fin (target := [rdB s2]) rfl (Nat.le_refl _) (rdB_cl _) rfl rfl
    · have g1 : ¬ s2.why ≠ 0 := by simpa using g1
      rw [if_neg g1] at h5
      have hx : (x : Int) ≤ limI size - 1 := by omega
      have hx32 : x < 32 := by omega
      repeat ((conv => whnf); first | refine Br.t ?_ | refine Br.f ?_ | refine ⟨rfl, ?_⟩)
      conv => whnf
      refine Br.mk (fun g2 => ?_) (fun g2 => ?_)
      · have g2 : (x : Int) ≤ lastI l := by simpa using g2
        rw [if_pos g2] at h5
        rw [← h5]
        repeat ((conv => whnf); first | refine Br.t ?_ | refine Br.f ?_ | refine ⟨rfl, ?_⟩)
        conv => whnf
        refine CallW.mono (fail49 { s2 with p := s'.p } 5) ?_
        rintro r st' ⟨rfl, rfl⟩
        repeat ((conv => whnf); first | refine Br.t ?_ | refine Br.f ?_ | refine ⟨rfl, ?_⟩)
        conv => whnf
        refine fin (target := [rdB (Rd.fail { s2 with p := s'.p } 5)]) rfl (Nat.le_refl _) (rdB_cl _) rfl rfl
      · have g2 : ¬ (x : Int) ≤ lastI l := by simpa using g2
        rw [if_neg g2] at h5
        repeat ((conv => whnf); first | refine Br.t ?_ | refine Br.f ?_ | refine ⟨rfl, ?_⟩)
        conv => whnf
        refine CallW.mono ((one58 x hx32).pure _ rfl rfl) ?_
        rintro r st' ⟨rfl, rfl⟩
        repeat ((conv => whnf); first | refine Br.t ?_ | refine Br.f ?_ | refine ⟨rfl, ?_⟩)
        conv => whnf
        have hr := snoc_rising h2 g2
        have hm : ∀ i ∈ l ++ [x], i < 32 := by
          intro i hi
          simp only [List.mem_append, List.mem_singleton] at hi
          rcases hi with hi | rfl
          · exact h3 i hi
          · exact hx32
        have eo := or32 (pows_lt h2 h3) (pow32 hx32)
        rw [or_pow h2 g2] at eo
        refine ⟨(k, l ++ [x], s2), ⟨hok2, hr, hm, by simp only; omega, h5⟩, by simp only; omega, Le.slots ?_⟩
        rw [lastI_snoc]
        have ek : IntKind.i64.wrap (((k + 1 : Nat) : Int) - 1) = (k : Int) := by rw [i64_id (by omega) (by omega)]; omega
        simp [leS, mkS] at eo ek ⊢
        exact ⟨eo, ek⟩
set_option maxHeartbeats 1000000 in
theorem set30 (s : Rd) (hok : s.ok) (size : Int) (hsz : -9223372036854775808 ≤ size ∧ size ≤ 9223372036854775807) : CallW Tryd.prog G0 30 [.ptr 0 0 0 0, .i (.int .i64 size)] [rdB s] (fun r st' => r = .i (.int .u32 (s.set size).1) ∧ st' = [rdB (s.set size).2]) := by
  refine call_of_bodyF 1 (Nat.le_refl _) Tryd.func30 rfl (fun a w => Tryd.call30 a w) (wpx_ok (own := own0) _ _ _ ?_)
  have hl := limI_le size
  have h32 := num_le32 hok size
  have hok1 := num_ok hok (limI size)
  have hset0 : s.set size = setR (s.num (limI size)).1 (limI size - 1) [] (s.num (limI size)).2 := rfl
  rw [hset0]
  clear hset0
  have e3 : (size > 32 → limI size = 32) ∧ (size < 0 → limI size = 0) ∧ (¬ size > 32 → ¬ size < 0 → limI size = size) := by
    unfold limI
    refine ⟨fun h => ?_, fun h => ?_, fun h h' => ?_⟩
    · rw [if_pos (show 32 < size by omega)]; rfl
    · rw [if_neg (show ¬ 32 < size by omega), if_pos (by omega)]
    · rw [if_neg (show ¬ 32 < size by omega), if_neg (by omega)]
  generalize limI size = L at *
  repeat ((conv => whnf); first | refine Br.t ?_ | refine Br.f ?_ | refine ⟨rfl, ?_⟩)
  conv => whnf
  refine Br.mk (fun g0 => ?_) (fun g0 => ?_)
  · have g0 : size > 32 := by simpa using g0
    have el : L = 32 := e3.1 g0
    subst el
    repeat ((conv => whnf); first | refine Br.t ?_ | refine Br.f ?_ | refine ⟨rfl, ?_⟩)
    conv => whnf
    have c0 := num41 s hok ((32 : Int))
    refine CallW.mono c0 ?_
    rintro r st' ⟨rfl, rfl⟩
    obtain ⟨n, s1, e1⟩ : ∃ m s', s.num ((32 : Int)) = (m, s') := ⟨_, _, rfl⟩
    have hwhy : s1.why ≠ 0 → n = 0 := fun h => by have := why_num0 (s := s) (mx := (32 : Int)) (by rw [e1]; exact h); rw [e1] at this; exact this
    rw [e1] at h32 hok1 ⊢
    simp only at h32 hok1 ⊢
    repeat ((conv => whnf); first | refine Br.t ?_ | refine Br.f ?_ | refine ⟨rfl, ?_⟩)
    conv => whnf
    refine loop_ok (α := Nat × List Nat × Rd) (fun x => ⟨mkS 63 [(0, .ptr 0 0 0 0), (1, .i (.int .i64 ((32 : Int)))), (4, .i (.int .u32 0)), (5, .i (.int .i64 n)), (6, .ref 1 1 0 x.1), (7, .i (.int .i64 x.1))], [rdB x.2.2, .row 1 1 false (lift (x.2.1.map elI))]⟩)
      (fun x => x.2.2.ok ∧ x.2.1.Pairwise (· < ·) ∧ (∀ i ∈ x.2.1, i < 32) ∧ x.1 ≤ n ∧ x.2.1.length = x.1 ∧ (x.2.2.why ≠ 0 → n = 0) ∧ setR (n - x.1) ((32 : Int) - 1) x.2.1 x.2.2 = setR n ((32 : Int) - 1) [] s1) (fun x => n - x.1) (0, [], s1) ⟨hok1, List.Pairwise.nil, by simp, Nat.zero_le _, rfl, hwhy, rfl⟩
      ((Le.nil (n := 1) 6 1 rfl).trans (Le.slots (by simp [leS, mkS]))) (fun x hx => wpx_ok (own := own0) _ _ _ ?_)
    obtain ⟨k, l, s'⟩ := x
    obtain ⟨h1, h2, h3, h4, hkl, hwn, h5⟩ := hx
    simp only at h1 h2 h3 h4 h5 hkl hwn
    dsimp only
    have hs' := h1
    repeat ((conv => whnf); first | refine Br.t ?_ | refine Br.f ?_ | refine ⟨rfl, ?_⟩)
    conv => whnf
    refine Br.mk (fun g2 => ?_) (fun g2 => ?_)
    · have g2 : k < n := by simp at g2; omega
      obtain ⟨d, hd⟩ : ∃ d, n - k = d + 1 := ⟨n - k - 1, by omega⟩
      rw [hd, setR] at h5
      have ew : IntKind.i64.wrap ((32 : Int) - 1) = (32 : Int) - 1 := i64_id (by omega) (by omega)
      repeat ((conv => whnf); first | refine Br.t ?_ | refine Br.f ?_ | refine ⟨rfl, ?_⟩)
      conv => whnf
      have c := num41 s' h1 ((32 : Int) - 1)
      have hok2 := num_ok h1 ((32 : Int) - 1)
      obtain ⟨x, s2, e2⟩ : ∃ m s, s'.num ((32 : Int) - 1) = (m, s) := ⟨_, _, rfl⟩
      have hx0 : s2.why ≠ 0 ∨ (x : Int) ≤ (32 : Int) - 1 := by
        by_cases hw : s2.why = 0
        · obtain ⟨n, e, hn, _⟩ := num_of h1 (mx := (32 : Int) - 1) (by rw [e2]; exact hw)
          rw [e2] at e
          simp only [Prod.mk.injEq] at e
          right; omega
        · exact .inl hw
      rw [e2] at c h5 hok2
      simp only at c h5 hok2
      rw [← ew] at c
      refine CallW.mono (atR [] [_] c rfl rfl) ?_
      rintro r st' ⟨rfl, rfl⟩
      repeat ((conv => whnf); first | refine Br.t ?_ | refine Br.f ?_ | refine ⟨rfl, ?_⟩)
      conv => whnf
      refine Br.mk (fun g3 => ?_) (fun g3 => ?_)
      · have g3 : s2.why ≠ 0 := by simpa using g3
        rw [if_pos g3] at h5
        rw [← h5]
        repeat ((conv => whnf); first | refine Br.t ?_ | refine Br.f ?_ | refine ⟨rfl, ?_⟩)
        conv => whnf
        refine fin (target := [rdB s2]) rfl (by simp) (rdB_cl _) rfl rfl
      · have g3 : ¬ s2.why ≠ 0 := by simpa using g3
        rw [if_neg g3] at h5
        have hx : (x : Int) ≤ (32 : Int) - 1 := by omega
        have hx32 : x < 32 := by omega
        repeat ((conv => whnf); first | refine Br.t ?_ | refine Br.f ?_ | refine ⟨rfl, ?_⟩)
        conv => whnf
        refine Br.mk (fun g4 => ?_) (fun g4 => ?_)
        · have g4 : 0 < k := by simp at g4; omega
          have ekm : IntKind.i64.wrap ((k : Int) - 1) = ((k - 1 : Nat) : Int) := by rw [i64_id (by omega) (by omega)]; omega
          obtain ⟨y, hy⟩ : ∃ y, y = l[k - 1]'(by omega) := ⟨_, rfl⟩
          have ey : (lift (l.map elI)).getD (0 + ((k - 1 : Nat) : Int).toNat) [] = [.i (.int .i64 y)] := by rw [hy, Nat.zero_add, Int.toNat_natCast]; exact lift_getD _ _ (by omega)
          have hly : lastI l = y := by rw [hy]; exact lastI_get hkl g4
          rw [hly] at h5
          repeat ((conv => whnf); first | refine Br.t ?_ | refine Br.f ?_ | refine ⟨rfl, ?_⟩)
          conv => whnf
          rw [ekm]
          refine ⟨by omega, ?_⟩
          repeat ((conv => whnf); first | refine Br.t ?_ | refine Br.f ?_ | refine ⟨rfl, ?_⟩)
          conv => whnf
          rw [ey]
          repeat ((conv => whnf); first | refine Br.t ?_ | refine Br.f ?_ | refine ⟨rfl, ?_⟩)
          conv => whnf
          refine Br.mk (fun g5 => ?_) (fun g5 => ?_)
          · have g5 : (x : Int) ≤ y := by simp at g5; omega
            rw [if_pos g5] at h5
            rw [← h5]
            repeat ((conv => whnf); first | refine Br.t ?_ | refine Br.f ?_ | refine ⟨rfl, ?_⟩)
            conv => whnf
            refine CallW.mono (atR [] [_] (fail42 { s2 with p := s'.p } 5) rfl rfl) ?_
            rintro r st' ⟨rfl, rfl⟩
            repeat ((conv => whnf); first | refine Br.t ?_ | refine Br.f ?_ | refine ⟨rfl, ?_⟩)
            conv => whnf
            refine fin (target := [rdB (Rd.fail { s2 with p := s'.p } 5)]) rfl (by simp) (rdB_cl _) rfl rfl
          · have g5 : ¬ (x : Int) ≤ y := by simp at g5; omega
            rw [if_neg g5] at h5
            rw [← hly] at g5
            repeat ((conv => whnf); first | refine Br.t ?_ | refine Br.f ?_ | refine ⟨rfl, ?_⟩)
            conv => whnf
            refine ⟨⟨by intro cs hcs; simp at hcs; subst hcs; rfl, by simp [lift]; omega, by show (k + 1) * 8 ≤ _; omega, len_mx (by simp [lift]; omega)⟩, ?_⟩
            repeat ((conv => whnf); first | refine Br.t ?_ | refine Br.f ?_ | refine ⟨rfl, ?_⟩)
            conv => whnf
            have hr := snoc_rising h2 g5
            have hm : ∀ i ∈ l ++ [x], i < 32 := by
              intro i hi
              simp only [List.mem_append, List.mem_singleton] at hi
              rcases hi with hi | rfl
              · exact h3 i hi
              · exact hx32
            refine ⟨(k + 1, l ++ [x], s2), ⟨hok2, hr, hm, by simp only; omega, by simp [hkl], fun h => absurd h g3, by rw [show n - (k + 1) = d by omega]; exact h5⟩, by simp only; omega, Le.down (fun id => if id = 1 then 1 else 0) (by intro id hid; simp at hid; simp [hid]) ?_ ?_⟩
            · simp [leS, mkS, V.up, lift]
              exact i64_id (by omega) (by omega)
            · simp only [upSt, Ob.up, map_up_lift, List.map_append, lift_app]
              rfl
        · have g4 : k = 0 := by simp at g4; omega
          have hl0 : l = [] := List.eq_nil_of_length_eq_zero (by omega)
          have g5 : ¬ (x : Int) ≤ lastI l := by rw [hl0, lastI_nil]; omega
          rw [if_neg g5] at h5
          repeat ((conv => whnf); first | refine Br.t ?_ | refine Br.f ?_ | refine ⟨rfl, ?_⟩)
          conv => whnf
          refine ⟨⟨by intro cs hcs; simp at hcs; subst hcs; rfl, by simp [lift]; omega, by show (k + 1) * 8 ≤ _; omega, len_mx (by simp [lift]; omega)⟩, ?_⟩
          repeat ((conv => whnf); first | refine Br.t ?_ | refine Br.f ?_ | refine ⟨rfl, ?_⟩)
          conv => whnf
          have hr := snoc_rising h2 g5
          have hm : ∀ i ∈ l ++ [x], i < 32 := by
            intro i hi
            simp only [List.mem_append, List.mem_singleton] at hi
            rcases hi with hi | rfl
            · exact h3 i hi
            · exact hx32
          refine ⟨(k + 1, l ++ [x], s2), ⟨hok2, hr, hm, by simp only; omega, by simp [hkl], fun h => absurd h g3, by rw [show n - (k + 1) = d by omega]; exact h5⟩, by simp only; omega, Le.down (fun id => if id = 1 then 1 else 0) (by intro id hid; simp at hid; simp [hid]) ?_ ?_⟩
          · simp [leS, mkS, V.up, lift]
            exact i64_id (by omega) (by omega)
          · simp only [upSt, Ob.up, map_up_lift, List.map_append, lift_app]
            rfl
    · have g2 : k = n := by simp at g2; omega
      subst g2
      rw [Nat.sub_self, setR] at h5
      rw [← h5]
      repeat ((conv => whnf); first | refine Br.t ?_ | refine Br.f ?_ | refine ⟨rfl, ?_⟩)
      conv => whnf
      refine Br.mk (fun g3 => ?_) (fun g3 => ?_)
      · have g3 : s'.why ≠ 0 := by simpa using g3
        have hk0 := hwn g3
        have hl0 : l = [] := List.eq_nil_of_length_eq_zero (by omega)
        subst hl0
        repeat ((conv => whnf); first | refine Br.t ?_ | refine Br.f ?_ | refine ⟨rfl, ?_⟩)
        conv => whnf
        refine fin (target := [rdB s']) rfl (by simp) (rdB_cl _) rfl rfl
      · repeat ((conv => whnf); first | refine Br.t ?_ | refine Br.f ?_ | refine ⟨rfl, ?_⟩)
        conv => whnf
        refine CallW.mono ((mask59 l h3 h2).ref1 _ rfl (by simp [hkl]) rfl rfl) ?_
        rintro r st' ⟨rfl, rfl⟩
        repeat ((conv => whnf); first | refine Br.t ?_ | refine Br.f ?_ | refine ⟨rfl, ?_⟩)
        conv => whnf
        refine fin (target := [rdB s']) rfl (by simp) (rdB_cl _) rfl rfl
  · have g0 : ¬ size > 32 := by simpa using g0
    repeat ((conv => whnf); first | refine Br.t ?_ | refine Br.f ?_ | refine ⟨rfl, ?_⟩)
    conv => whnf
    refine Br.mk (fun g1 => ?_) (fun g1 => ?_)
    · have g1 : size < 0 := by simpa using g1
      have el : L = 0 := e3.2.1 g1
      subst el
      repeat ((conv => whnf); first | refine Br.t ?_ | refine Br.f ?_ | refine ⟨rfl, ?_⟩)
      conv => whnf
      have c0 := num41 s hok ((0 : Int))
      refine CallW.mono c0 ?_
      rintro r st' ⟨rfl, rfl⟩
      obtain ⟨n, s1, e1⟩ : ∃ m s', s.num ((0 : Int)) = (m, s') := ⟨_, _, rfl⟩
      have hwhy : s1.why ≠ 0 → n = 0 := fun h => by have := why_num0 (s := s) (mx := (0 : Int)) (by rw [e1]; exact h); rw [e1] at this; exact this
      rw [e1] at h32 hok1 ⊢
      simp only at h32 hok1 ⊢
      repeat ((conv => whnf); first | refine Br.t ?_ | refine Br.f ?_ | refine ⟨rfl, ?_⟩)
      conv => whnf
      refine loop_ok (α := Nat × List Nat × Rd) (fun x => ⟨mkS 63 [(0, .ptr 0 0 0 0), (1, .i (.int .i64 ((0 : Int)))), (4, .i (.int .u32 0)), (5, .i (.int .i64 n)), (6, .ref 1 1 0 x.1), (7, .i (.int .i64 x.1))], [rdB x.2.2, .row 1 1 false (lift (x.2.1.map elI))]⟩)
        (fun x => x.2.2.ok ∧ x.2.1.Pairwise (· < ·) ∧ (∀ i ∈ x.2.1, i < 32) ∧ x.1 ≤ n ∧ x.2.1.length = x.1 ∧ (x.2.2.why ≠ 0 → n = 0) ∧ setR (n - x.1) ((0 : Int) - 1) x.2.1 x.2.2 = setR n ((0 : Int) - 1) [] s1) (fun x => n - x.1) (0, [], s1) ⟨hok1, List.Pairwise.nil, by simp, Nat.zero_le _, rfl, hwhy, rfl⟩
        ((Le.nil (n := 1) 6 1 rfl).trans (Le.slots (by simp [leS, mkS]))) (fun x hx => wpx_ok (own := own0) _ _ _ ?_)
      obtain ⟨k, l, s'⟩ := x
      obtain ⟨h1, h2, h3, h4, hkl, hwn, h5⟩ := hx
      simp only at h1 h2 h3 h4 h5 hkl hwn
      dsimp only
      have hs' := h1
      repeat ((conv => whnf); first | refine Br.t ?_ | refine Br.f ?_ | refine ⟨rfl, ?_⟩)
      conv => whnf
      refine Br.mk (fun g2 => ?_) (fun g2 => ?_)
      · have g2 : k < n := by simp at g2; omega
        obtain ⟨d, hd⟩ : ∃ d, n - k = d + 1 := ⟨n - k - 1, by omega⟩
        rw [hd, setR] at h5
        have ew : IntKind.i64.wrap ((0 : Int) - 1) = (0 : Int) - 1 := i64_id (by omega) (by omega)
        repeat ((conv => whnf); first | refine Br.t ?_ | refine Br.f ?_ | refine ⟨rfl, ?_⟩)
        conv => whnf
        have c := num41 s' h1 ((0 : Int) - 1)
        have hok2 := num_ok h1 ((0 : Int) - 1)
        obtain ⟨x, s2, e2⟩ : ∃ m s, s'.num ((0 : Int) - 1) = (m, s) := ⟨_, _, rfl⟩
        have hx0 : s2.why ≠ 0 ∨ (x : Int) ≤ (0 : Int) - 1 := by
          by_cases hw : s2.why = 0
          · obtain ⟨n, e, hn, _⟩ := num_of h1 (mx := (0 : Int) - 1) (by rw [e2]; exact hw)
            rw [e2] at e
            simp only [Prod.mk.injEq] at e
            right; omega
          · exact .inl hw
        rw [e2] at c h5 hok2
        simp only at c h5 hok2
        rw [← ew] at c
        refine CallW.mono (atR [] [_] c rfl rfl) ?_
        rintro r st' ⟨rfl, rfl⟩
        repeat ((conv => whnf); first | refine Br.t ?_ | refine Br.f ?_ | refine ⟨rfl, ?_⟩)
        conv => whnf
        refine Br.mk (fun g3 => ?_) (fun g3 => ?_)
        · have g3 : s2.why ≠ 0 := by simpa using g3
          rw [if_pos g3] at h5
          rw [← h5]
          repeat ((conv => whnf); first | refine Br.t ?_ | refine Br.f ?_ | refine ⟨rfl, ?_⟩)
          conv => whnf
          refine fin (target := [rdB s2]) rfl (by simp) (rdB_cl _) rfl rfl
        · have g3 : ¬ s2.why ≠ 0 := by simpa using g3
          rw [if_neg g3] at h5
          have hx : (x : Int) ≤ (0 : Int) - 1 := by omega
          have hx32 : x < 32 := by omega
          repeat ((conv => whnf); first | refine Br.t ?_ | refine Br.f ?_ | refine ⟨rfl, ?_⟩)
          conv => whnf
          refine Br.mk (fun g4 => ?_) (fun g4 => ?_)
          · have g4 : 0 < k := by simp at g4; omega
            have ekm : IntKind.i64.wrap ((k : Int) - 1) = ((k - 1 : Nat) : Int) := by rw [i64_id (by omega) (by omega)]; omega
            obtain ⟨y, hy⟩ : ∃ y, y = l[k - 1]'(by omega) := ⟨_, rfl⟩
            have ey : (lift (l.map elI)).getD (0 + ((k - 1 : Nat) : Int).toNat) [] = [.i (.int .i64 y)] := by rw [hy, Nat.zero_add, Int.toNat_natCast]; exact lift_getD _ _ (by omega)
            have hly : lastI l = y := by rw [hy]; exact lastI_get hkl g4
            rw [hly] at h5
            repeat ((conv => whnf); first | refine Br.t ?_ | refine Br.f ?_ | refine ⟨rfl, ?_⟩)
            conv => whnf
            rw [ekm]
            refine ⟨by omega, ?_⟩
            repeat ((conv => whnf); first | refine Br.t ?_ | refine Br.f ?_ | refine ⟨rfl, ?_⟩)
            conv => whnf
            rw [ey]
            repeat ((conv => whnf); first | refine Br.t ?_ | refine Br.f ?_ | refine ⟨rfl, ?_⟩)
            conv => whnf
            refine Br.mk (fun g5 => ?_) (fun g5 => ?_)
            · have g5 : (x : Int) ≤ y := by simp at g5; omega
              rw [if_pos g5] at h5
              rw [← h5]
              repeat ((conv => whnf); first | refine Br.t ?_ | refine Br.f ?_ | refine ⟨rfl, ?_⟩)
              conv => whnf
              refine CallW.mono (atR [] [_] (fail42 { s2 with p := s'.p } 5) rfl rfl) ?_
              rintro r st' ⟨rfl, rfl⟩
              repeat ((conv => whnf); first | refine Br.t ?_ | refine Br.f ?_ | refine ⟨rfl, ?_⟩)
              conv => whnf
              refine fin (target := [rdB (Rd.fail { s2 with p := s'.p } 5)]) rfl (by simp) (rdB_cl _) rfl rfl
            · have g5 : ¬ (x : Int) ≤ y := by simp at g5; omega
              rw [if_neg g5] at h5
              rw [← hly] at g5
              repeat ((conv => whnf); first | refine Br.t ?_ | refine Br.f ?_ | refine ⟨rfl, ?_⟩)
              conv => whnf
              refine ⟨⟨by intro cs hcs; simp at hcs; subst hcs; rfl, by simp [lift]; omega, by show (k + 1) * 8 ≤ _; omega, len_mx (by simp [lift]; omega)⟩, ?_⟩
              repeat ((conv => whnf); first | refine Br.t ?_ | refine Br.f ?_ | refine ⟨rfl, ?_⟩)
              conv => whnf
              have hr := snoc_rising h2 g5
              have hm : ∀ i ∈ l ++ [x], i < 32 := by
                intro i hi
                simp only [List.mem_append, List.mem_singleton] at hi
                rcases hi with hi | rfl
                · exact h3 i hi
                · exact hx32
              refine ⟨(k + 1, l ++ [x], s2), ⟨hok2, hr, hm, by simp only; omega, by simp [hkl], fun h => absurd h g3, by rw [show n - (k + 1) = d by omega]; exact h5⟩, by simp only; omega, Le.down (fun id => if id = 1 then 1 else 0) (by intro id hid; simp at hid; simp [hid]) ?_ ?_⟩
              · simp [leS, mkS, V.up, lift]
                exact i64_id (by omega) (by omega)
              · simp only [upSt, Ob.up, map_up_lift, List.map_append, lift_app]
                rfl
          · have g4 : k = 0 := by simp at g4; omega
            have hl0 : l = [] := List.eq_nil_of_length_eq_zero (by omega)
            have g5 : ¬ (x : Int) ≤ lastI l := by rw [hl0, lastI_nil]; omega
            rw [if_neg g5] at h5
            repeat ((conv => whnf); first | refine Br.t ?_ | refine Br.f ?_ | refine ⟨rfl, ?_⟩)
            conv => whnf
            refine ⟨⟨by intro cs hcs; simp at hcs; subst hcs; rfl, by simp [lift]; omega, by show (k + 1) * 8 ≤ _; omega, len_mx (by simp [lift]; omega)⟩, ?_⟩
            repeat ((conv => whnf); first | refine Br.t ?_ | refine Br.f ?_ | refine ⟨rfl, ?_⟩)
            conv => whnf
            have hr := snoc_rising h2 g5
            have hm : ∀ i ∈ l ++ [x], i < 32 := by
              intro i hi
              simp only [List.mem_append, List.mem_singleton] at hi
              rcases hi with hi | rfl
              · exact h3 i hi
              · exact hx32
            refine ⟨(k + 1, l ++ [x], s2), ⟨hok2, hr, hm, by simp only; omega, by simp [hkl], fun h => absurd h g3, by rw [show n - (k + 1) = d by omega]; exact h5⟩, by simp only; omega, Le.down (fun id => if id = 1 then 1 else 0) (by intro id hid; simp at hid; simp [hid]) ?_ ?_⟩
            · simp [leS, mkS, V.up, lift]
              exact i64_id (by omega) (by omega)
            · simp only [upSt, Ob.up, map_up_lift, List.map_append, lift_app]
              rfl
      · have g2 : k = n := by simp at g2; omega
        subst g2
        rw [Nat.sub_self, setR] at h5
        rw [← h5]
        repeat ((conv => whnf); first | refine Br.t ?_ | refine Br.f ?_ | refine ⟨rfl, ?_⟩)
        conv => whnf
        refine Br.mk (fun g3 => ?_) (fun g3 => ?_)
        · have g3 : s'.why ≠ 0 := by simpa using g3
          have hk0 := hwn g3
          have hl0 : l = [] := List.eq_nil_of_length_eq_zero (by omega)
          subst hl0
          repeat ((conv => whnf); first | refine Br.t ?_ | refine Br.f ?_ | refine ⟨rfl, ?_⟩)
          conv => whnf
          refine fin (target := [rdB s']) rfl (by simp) (rdB_cl _) rfl rfl
        · repeat ((conv => whnf); first | refine Br.t ?_ | refine Br.f ?_ | refine ⟨rfl, ?_⟩)
          conv => whnf
          refine CallW.mono ((mask59 l h3 h2).ref1 _ rfl (by simp [hkl]) rfl rfl) ?_
          rintro r st' ⟨rfl, rfl⟩
          repeat ((conv => whnf); first | refine Br.t ?_ | refine Br.f ?_ | refine ⟨rfl, ?_⟩)
          conv => whnf
          refine fin (target := [rdB s']) rfl (by simp) (rdB_cl _) rfl rfl
    · have g1 : ¬ size < 0 := by simpa using g1
      have el : L = size := e3.2.2 g0 g1
      subst el
      repeat ((conv => whnf); first | refine Br.t ?_ | refine Br.f ?_ | refine ⟨rfl, ?_⟩)
      conv => whnf
      have c0 := num41 s hok (L)
      refine CallW.mono c0 ?_
      rintro r st' ⟨rfl, rfl⟩
      obtain ⟨n, s1, e1⟩ : ∃ m s', s.num (L) = (m, s') := ⟨_, _, rfl⟩
      have hwhy : s1.why ≠ 0 → n = 0 := fun h => by have := why_num0 (s := s) (mx := L) (by rw [e1]; exact h); rw [e1] at this; exact this
      rw [e1] at h32 hok1 ⊢
      simp only at h32 hok1 ⊢
      repeat ((conv => whnf); first | refine Br.t ?_ | refine Br.f ?_ | refine ⟨rfl, ?_⟩)
      conv => whnf
      refine loop_ok (α := Nat × List Nat × Rd) (fun x => ⟨mkS 63 [(0, .ptr 0 0 0 0), (1, .i (.int .i64 (L))), (4, .i (.int .u32 0)), (5, .i (.int .i64 n)), (6, .ref 1 1 0 x.1), (7, .i (.int .i64 x.1))], [rdB x.2.2, .row 1 1 false (lift (x.2.1.map elI))]⟩)
        (fun x => x.2.2.ok ∧ x.2.1.Pairwise (· < ·) ∧ (∀ i ∈ x.2.1, i < 32) ∧ x.1 ≤ n ∧ x.2.1.length = x.1 ∧ (x.2.2.why ≠ 0 → n = 0) ∧ setR (n - x.1) (L - 1) x.2.1 x.2.2 = setR n (L - 1) [] s1) (fun x => n - x.1) (0, [], s1) ⟨hok1, List.Pairwise.nil, by simp, Nat.zero_le _, rfl, hwhy, rfl⟩
        ((Le.nil (n := 1) 6 1 rfl).trans (Le.slots (by simp [leS, mkS]))) (fun x hx => wpx_ok (own := own0) _ _ _ ?_)
      obtain ⟨k, l, s'⟩ := x
      obtain ⟨h1, h2, h3, h4, hkl, hwn, h5⟩ := hx
      simp only at h1 h2 h3 h4 h5 hkl hwn
      dsimp only
      have hs' := h1
      repeat ((conv => whnf); first | refine Br.t ?_ | refine Br.f ?_ | refine ⟨rfl, ?_⟩)
      conv => whnf
      refine Br.mk (fun g2 => ?_) (fun g2 => ?_)
      · have g2 : k < n := by simp at g2; omega
        obtain ⟨d, hd⟩ : ∃ d, n - k = d + 1 := ⟨n - k - 1, by omega⟩
        rw [hd, setR] at h5
        have ew : IntKind.i64.wrap (L - 1) = L - 1 := i64_id (by omega) (by omega)
        repeat ((conv => whnf); first | refine Br.t ?_ | refine Br.f ?_ | refine ⟨rfl, ?_⟩)
        conv => whnf
        have c := num41 s' h1 (L - 1)
        have hok2 := num_ok h1 (L - 1)
        obtain ⟨x, s2, e2⟩ : ∃ m s, s'.num (L - 1) = (m, s) := ⟨_, _, rfl⟩
        have hx0 : s2.why ≠ 0 ∨ (x : Int) ≤ L - 1 := by
          by_cases hw : s2.why = 0
          · obtain ⟨n, e, hn, _⟩ := num_of h1 (mx := L - 1) (by rw [e2]; exact hw)
            rw [e2] at e
            simp only [Prod.mk.injEq] at e
            right; omega
          · exact .inl hw
        rw [e2] at c h5 hok2
        simp only at c h5 hok2
        rw [← ew] at c
        refine CallW.mono (atR [] [_] c rfl rfl) ?_
        rintro r st' ⟨rfl, rfl⟩
        repeat ((conv => whnf); first | refine Br.t ?_ | refine Br.f ?_ | refine ⟨rfl, ?_⟩)
        conv => whnf
        refine Br.mk (fun g3 => ?_) (fun g3 => ?_)
        · have g3 : s2.why ≠ 0 := by simpa using g3
          rw [if_pos g3] at h5
          rw [← h5]
          repeat ((conv => whnf); first | refine Br.t ?_ | refine Br.f ?_ | refine ⟨rfl, ?_⟩)
          conv => whnf
          refine fin (target := [rdB s2]) rfl (by simp) (rdB_cl _) rfl rfl
        · have g3 : ¬ s2.why ≠ 0 := by simpa using g3
          rw [if_neg g3] at h5
          have hx : (x : Int) ≤ L - 1 := by omega
          have hx32 : x < 32 := by omega
          repeat ((conv => whnf); first | refine Br.t ?_ | refine Br.f ?_ | refine ⟨rfl, ?_⟩)
          conv => whnf
          refine Br.mk (fun g4 => ?_) (fun g4 => ?_)
          · have g4 : 0 < k := by simp at g4; omega
            have ekm : IntKind.i64.wrap ((k : Int) - 1) = ((k - 1 : Nat) : Int) := by rw [i64_id (by omega) (by omega)]; omega
            obtain ⟨y, hy⟩ : ∃ y, y = l[k - 1]'(by omega) := ⟨_, rfl⟩
            have ey : (lift (l.map elI)).getD (0 + ((k - 1 : Nat) : Int).toNat) [] = [.i (.int .i64 y)] := by rw [hy, Nat.zero_add, Int.toNat_natCast]; exact lift_getD _ _ (by omega)
            have hly : lastI l = y := by rw [hy]; exact lastI_get hkl g4
            rw [hly] at h5
            repeat ((conv => whnf); first | refine Br.t ?_ | refine Br.f ?_ | refine ⟨rfl, ?_⟩)
            conv => whnf
            rw [ekm]
            refine ⟨by omega, ?_⟩
            repeat ((conv => whnf); first | refine Br.t ?_ | refine Br.f ?_ | refine ⟨rfl, ?_⟩)
            conv => whnf
            rw [ey]
            repeat ((conv => whnf); first | refine Br.t ?_ | refine Br.f ?_ | refine ⟨rfl, ?_⟩)
            conv => whnf
            refine Br.mk (fun g5 => ?_) (fun g5 => ?_)
            · have g5 : (x : Int) ≤ y := by simp at g5; omega
              rw [if_pos g5] at h5
              rw [← h5]
              repeat ((conv => whnf); first | refine Br.t ?_ | refine Br.f ?_ | refine ⟨rfl, ?_⟩)
              conv => whnf
              refine CallW.mono (atR [] [_] (fail42 { s2 with p := s'.p } 5) rfl rfl) ?_
              rintro r st' ⟨rfl, rfl⟩
              repeat ((conv => whnf); first | refine Br.t ?_ | refine Br.f ?_ | refine ⟨rfl, ?_⟩)
              conv => whnf
              refine fin (target := [rdB (Rd.fail { s2 with p := s'.p } 5)]) rfl (by simp) (rdB_cl _) rfl rfl
            · have g5 : ¬ (x : Int) ≤ y := by simp at g5; omega
              rw [if_neg g5] at h5
              rw [← hly] at g5
              repeat ((conv => whnf); first | refine Br.t ?_ | refine Br.f ?_ | refine ⟨rfl, ?_⟩)
              conv => whnf
              refine ⟨⟨by intro cs hcs; simp at hcs; subst hcs; rfl, by simp [lift]; omega, by show (k + 1) * 8 ≤ _; omega, len_mx (by simp [lift]; omega)⟩, ?_⟩
              repeat ((conv => whnf); first | refine Br.t ?_ | refine Br.f ?_ | refine ⟨rfl, ?_⟩)
              conv => whnf
              have hr := snoc_rising h2 g5
              have hm : ∀ i ∈ l ++ [x], i < 32 := by
                intro i hi
                simp only [List.mem_append, List.mem_singleton] at hi
                rcases hi with hi | rfl
                · exact h3 i hi
                · exact hx32
              refine ⟨(k + 1, l ++ [x], s2), ⟨hok2, hr, hm, by simp only; omega, by simp [hkl], fun h => absurd h g3, by rw [show n - (k + 1) = d by omega]; exact h5⟩, by simp only; omega, Le.down (fun id => if id = 1 then 1 else 0) (by intro id hid; simp at hid; simp [hid]) ?_ ?_⟩
              · simp [leS, mkS, V.up, lift]
                exact i64_id (by omega) (by omega)
              · simp only [upSt, Ob.up, map_up_lift, List.map_append, lift_app]
                rfl
          · have g4 : k = 0 := by simp at g4; omega
            have hl0 : l = [] := List.eq_nil_of_length_eq_zero (by omega)
            have g5 : ¬ (x : Int) ≤ lastI l := by rw [hl0, lastI_nil]; omega
            rw [if_neg g5] at h5
            repeat ((conv => whnf); first | refine Br.t ?_ | refine Br.f ?_ | refine ⟨rfl, ?_⟩)
            conv => whnf
            refine ⟨⟨by intro cs hcs; simp at hcs; subst hcs; rfl, by simp [lift]; omega, by show (k + 1) * 8 ≤ _; omega, len_mx (by simp [lift]; omega)⟩, ?_⟩
            repeat ((conv => whnf); first | refine Br.t ?_ | refine Br.f ?_ | refine ⟨rfl, ?_⟩)
            conv => whnf
            have hr := snoc_rising h2 g5
            have hm : ∀ i ∈ l ++ [x], i < 32 := by
              intro i hi
              simp only [List.mem_append, List.mem_singleton] at hi
              rcases hi with hi | rfl
              · exact h3 i hi
              · exact hx32
            refine ⟨(k + 1, l ++ [x], s2), ⟨hok2, hr, hm, by simp only; omega, by simp [hkl], fun h => absurd h g3, by rw [show n - (k + 1) = d by omega]; exact h5⟩, by simp only; omega, Le.down (fun id => if id = 1 then 1 else 0) (by intro id hid; simp at hid; simp [hid]) ?_ ?_⟩
            · simp [leS, mkS, V.up, lift]
              exact i64_id (by omega) (by omega)
            · simp only [upSt, Ob.up, map_up_lift, List.map_append, lift_app]
              rfl
      · have g2 : k = n := by simp at g2; omega
        subst g2
        rw [Nat.sub_self, setR] at h5
        rw [← h5]
        repeat ((conv => whnf); first | refine Br.t ?_ | refine Br.f ?_ | refine ⟨rfl, ?_⟩)
        conv => whnf
        refine Br.mk (fun g3 => ?_) (fun g3 => ?_)
        · have g3 : s'.why ≠ 0 := by simpa using g3
          have hk0 := hwn g3
          have hl0 : l = [] := List.eq_nil_of_length_eq_zero (by omega)
          subst hl0
          repeat ((conv => whnf); first | refine Br.t ?_ | refine Br.f ?_ | refine ⟨rfl, ?_⟩)
          conv => whnf
          refine fin (target := [rdB s']) rfl (by simp) (rdB_cl _) rfl rfl
        · repeat ((conv => whnf); first | refine Br.t ?_ | refine Br.f ?_ | refine ⟨rfl, ?_⟩)
          conv => whnf
          refine CallW.mono ((mask59 l h3 h2).ref1 _ rfl (by simp [hkl]) rfl rfl) ?_
          rintro r st' ⟨rfl, rfl⟩
          repeat ((conv => whnf); first | refine Br.t ?_ | refine Br.f ?_ | refine ⟨rfl, ?_⟩)
          conv => whnf
          refine fin (target := [rdB s']) rfl (by simp) (rdB_cl _) rfl rfl
end Go.Proofs.YtdbmfnhbgacldaaDoor.Am
