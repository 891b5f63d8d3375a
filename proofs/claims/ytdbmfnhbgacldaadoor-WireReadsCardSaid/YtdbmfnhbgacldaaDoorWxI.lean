/- Contracts: the law that the first fault stays. -/
import Derived.Test.YtdbmfnhbgacldaaDoorWxG
namespace Go.Proofs.YtdbmfnhbgacldaaDoor.Am
set_option autoImplicit false
set_option linter.unusedVariables false
set_option linter.unusedSimpArgs false
set_option maxRecDepth 10000
set_option pp.maxSteps 20000
set_option pp.proofs false
def txtN (n : Nat) : List Nat := if n = 0 then [] else putN n
/-- what a call reads, as bytes -/
def rdo (x : Item) (s : Rd) : List Nat × Rd :=
  if x.1 % 4 = 0 then (txtN (s.num x.2.1).1, (s.num x.2.1).2) else if x.1 % 4 = 1 then s.raw x.2.1 else if x.1 % 4 = 2 then s.block x.2.1 else (txtN (s.set x.2.1).1, (s.set x.2.1).2)
/-- a reader of these bytes -/
def Rd.at' (s : Rd) (bs : List Nat) : Prop := s.ok ∧ s.bs = bs ∧ s.a ≤ bs.length
theorem at_fail {s : Rd} {bs : List Nat} (h : s.at' bs) (c : Nat) : (s.fail c).at' bs := by
  obtain ⟨h1, h2, h3⟩ := h
  refine ⟨fail_ok h1 c, ?_, ?_⟩
  · unfold Rd.fail; split <;> exact h2
  · unfold Rd.fail
    split
    · have := h1.2.1; simp only; rw [← h2]; exact this
    · exact h3
theorem at_num {s : Rd} {bs : List Nat} (h : s.at' bs) (mx : Int) : (s.num mx).2.at' bs := by
  have hk := num_ok h.1 mx
  unfold Rd.num at hk ⊢
  split
  · exact h
  · split
    · exact at_fail h _
    · split
      · exact at_fail h _
      · rename_i h1 h2 h3
        rw [if_neg h1, if_neg h2, if_neg h3] at hk
        exact ⟨hk, h.2.1, h.2.2⟩
theorem at_raw {s : Rd} {bs : List Nat} (h : s.at' bs) (n : Int) : (s.raw n).2.at' bs := by
  have hk := raw_ok h.1 n
  unfold Rd.raw at hk ⊢
  split
  · exact h
  · split
    · exact at_fail h _
    · split
      · exact at_fail h _
      · rename_i h1 h2 h3
        rw [if_neg h1, if_neg h2, if_neg h3] at hk
        exact ⟨hk, h.2.1, h.2.2⟩
theorem at_setR : ∀ (n : Nat) (lim : Int) (l : List Nat) (s : Rd) (bs : List Nat), s.at' bs → (setR n lim l s).2.at' bs
  | 0, _, _, _, _, h => h
  | n + 1, lim, l, s, bs, h => by
    rw [setR]
    have hn := at_num h lim
    split
    · exact hn
    · split
      · refine at_fail (s := Rd.mk (s.num lim).2.bs s.p (s.num lim).2.a (s.num lim).2.why) (bs := bs) ⟨⟨?_, ?_, ?_⟩, hn.2.1, hn.2.2⟩ 5
        · exact hn.1.1
        · show s.p ≤ (s.num lim).2.bs.length
          rw [hn.2.1, ← h.2.1]; exact h.1.2.1
        · exact hn.1.2.2
      · exact at_setR n lim _ _ bs hn
theorem at_set {s : Rd} {bs : List Nat} (h : s.at' bs) (size : Int) : (s.set size).2.at' bs := at_setR _ _ _ _ _ (at_num h _)
theorem at_rdo {s : Rd} {bs : List Nat} (h : s.at' bs) (x : Item) : (rdo x s).2.at' bs := by
  unfold rdo
  split
  · exact at_num h _
  · split
    · exact at_raw h _
    · split
      · exact at_raw (at_num h _) _
      · exact at_set h _
theorem num_bad {s : Rd} (h : s.why ≠ 0) (mx : Int) : s.num mx = (0, s) := by unfold Rd.num; rw [if_pos h]
theorem raw_bad {s : Rd} (h : s.why ≠ 0) (n : Int) : s.raw n = ([], s) := by unfold Rd.raw; rw [if_pos h]
theorem set_bad {s : Rd} (h : s.why ≠ 0) (size : Int) : s.set size = (0, s) := by
  unfold Rd.set; rw [num_bad h]; rfl
theorem rdo_bad {s : Rd} (h : s.why ≠ 0) (x : Item) : rdo x s = ([], s) := by
  unfold rdo Rd.block
  rw [num_bad h, raw_bad h, set_bad h]
  simp only [raw_bad h]
  rw [show txtN 0 = [] by unfold txtN; rw [if_pos rfl]]
  split
  · rfl
  · split
    · rfl
    · split <;> rfl
theorem num_lt {s : Rd} (mx : Int) : (s.num mx).1 < 4294967296 := by
  unfold Rd.num
  obtain ⟨g1, _, _⟩ := getV_ok (s.bs.drop s.p) 0 0 (by decide) (by decide)
  split
  · simp
  · split
    · simp
    · split
      · simp
      · exact g1
theorem setR_lt : ∀ (n : Nat) (lim : Int) (l : List Nat) (s : Rd), s.ok → lim ≤ 31 → l.Pairwise (· < ·) → (∀ i ∈ l, i < 32) → (setR n lim l s).1 < 4294967296
  | 0, _, l, _, _, _, hp, h => pows_lt hp h
  | n + 1, lim, l, s, ho, hl, hp, h => by
    rw [setR]
    split
    · simp
    · rename_i h1
      split
      · simp
      · rename_i h2
        obtain ⟨k, e, hn, _⟩ := num_of ho (mx := lim) (by omega)
        rw [e] at h2 ⊢
        simp only at h2 ⊢
        refine setR_lt n lim _ _ ?_ hl (snoc_rising hp h2) (fun i hi => ?_)
        · have := num_ok ho lim; rw [e] at this; exact this
        · simp only [List.mem_append, List.mem_singleton] at hi
          rcases hi with hi | rfl
          · exact h i hi
          · omega
theorem set_lt {s : Rd} (ho : s.ok) (size : Int) : (s.set size).1 < 4294967296 := setR_lt _ _ _ _ (num_ok ho _) (by have := limI_le size; omega) List.Pairwise.nil (by simp)
set_option maxHeartbeats 1000000 in
theorem read35 (x : Item) (hx : okIt x) (s : Rd) (hok : s.ok) : CallW Tryd.prog G0 35 [.ptr 0 0 0 0, .agg ((encIt x).map .i)] [rdB s] (fun r st' => r = .i (.str (strOf (rdo x s).1)) ∧ st' = [rdB (rdo x s).2]) := by
  refine call_of_bodyF 1 (Nat.le_refl _) Tryd.func35 rfl (fun a w => Tryd.call35 a w) (wpx_ok (own := own0) _ _ _ ?_)
  obtain ⟨d, n, b, m⟩ := x
  obtain ⟨o1, o2, o3, o4⟩ := hx
  simp only at o1 o2 o3 o4
  obtain ⟨m0, m1, m2⟩ := mod4 (n := d)
  repeat ((conv => whnf); first | refine Br.t ?_ | refine Br.f ?_ | refine ⟨rfl, ?_⟩)
  conv => whnf
  refine ⟨by decide, ?_⟩
  repeat ((conv => whnf); first | refine Br.t ?_ | refine Br.f ?_ | refine ⟨rfl, ?_⟩)
  conv => whnf
  refine Br.mk (fun c0 => ?_) (fun c0 => ?_)
  · have c0 : d % 4 = 0 := by rw [m0] at c0; simpa using c0
    have er : rdo (d, n, b, m) s = (txtN (s.num n).1, (s.num n).2) := by unfold rdo; rw [if_pos c0]
    have hv := num_lt (s := s) n
    rw [er]
    repeat ((conv => whnf); first | refine Br.t ?_ | refine Br.f ?_ | refine ⟨rfl, ?_⟩)
    conv => whnf
    refine CallW.mono (atR [] [_] (num37 s hok n) rfl rfl) ?_
    rintro r st' ⟨rfl, rfl⟩
    repeat ((conv => whnf); first | refine Br.t ?_ | refine Br.f ?_ | refine ⟨rfl, ?_⟩)
    conv => whnf
    refine Br.mk (fun q => ?_) (fun q => ?_)
    · have q : (s.num n).1 = 0 := by simp at q; omega
      rw [show txtN (s.num n).1 = [] by unfold txtN; rw [if_pos q]]
      repeat ((conv => whnf); first | refine Br.t ?_ | refine Br.f ?_ | refine ⟨rfl, ?_⟩)
      conv => whnf
      refine fin (target := [rdB (s.num n).2]) rfl (by simp) (rdB_cl _) rfl rfl
    · have q : (s.num n).1 ≠ 0 := by simp at q; omega
      rw [show txtN (s.num n).1 = putN (s.num n).1 by unfold txtN; rw [if_neg q]]
      repeat ((conv => whnf); first | refine Br.t ?_ | refine Br.f ?_ | refine ⟨rfl, ?_⟩)
      conv => whnf
      refine CallW.mono ((put17 (s.num n).1 (by omega)).pure _ rfl rfl) ?_
      rintro r st' ⟨rfl, rfl⟩
      repeat ((conv => whnf); first | refine Br.t ?_ | refine Br.f ?_ | refine ⟨rfl, ?_⟩)
      conv => whnf
      refine ⟨isB_ok (isB_map (putN (s.num n).1)), ?_⟩
      repeat ((conv => whnf); first | refine Br.t ?_ | refine Br.f ?_ | refine ⟨rfl, ?_⟩)
      conv => whnf
      refine fin (target := [rdB (s.num n).2]) rfl (by simp) (rdB_cl _) rfl rfl
  · have c0 : ¬ d % 4 = 0 := by rw [m0] at c0; simpa using c0
    repeat ((conv => whnf); first | refine Br.t ?_ | refine Br.f ?_ | refine ⟨rfl, ?_⟩)
    conv => whnf
    refine Br.mk (fun c1 => ?_) (fun c1 => ?_)
    · have c1 : d % 4 = 1 := by rw [m1] at c1; simpa using c1
      have er : rdo (d, n, b, m) s = s.raw n := by unfold rdo; rw [if_neg c0, if_pos c1]
      rw [er]
      repeat ((conv => whnf); first | refine Br.t ?_ | refine Br.f ?_ | refine ⟨rfl, ?_⟩)
      conv => whnf
      refine CallW.mono (atR [] [_] (raw34 s hok n) rfl rfl) ?_
      rintro r st' ⟨rfl, rfl⟩
      repeat ((conv => whnf); first | refine Br.t ?_ | refine Br.f ?_ | refine ⟨rfl, ?_⟩)
      conv => whnf
      refine ⟨isB_ok (isB_map (s.raw n).1), ?_⟩
      repeat ((conv => whnf); first | refine Br.t ?_ | refine Br.f ?_ | refine ⟨rfl, ?_⟩)
      conv => whnf
      refine fin (target := [rdB (s.raw n).2]) rfl (by simp) (rdB_cl _) rfl rfl
    · have c1 : ¬ d % 4 = 1 := by rw [m1] at c1; simpa using c1
      repeat ((conv => whnf); first | refine Br.t ?_ | refine Br.f ?_ | refine ⟨rfl, ?_⟩)
      conv => whnf
      refine Br.mk (fun c2 => ?_) (fun c2 => ?_)
      · have c2 : d % 4 = 2 := by rw [m2] at c2; simpa using c2
        have er : rdo (d, n, b, m) s = s.block n := by unfold rdo; rw [if_neg c0, if_neg c1, if_pos c2]
        rw [er]
        repeat ((conv => whnf); first | refine Br.t ?_ | refine Br.f ?_ | refine ⟨rfl, ?_⟩)
        conv => whnf
        refine CallW.mono (atR [] [_] (block36 s hok n) rfl rfl) ?_
        rintro r st' ⟨rfl, rfl⟩
        repeat ((conv => whnf); first | refine Br.t ?_ | refine Br.f ?_ | refine ⟨rfl, ?_⟩)
        conv => whnf
        refine ⟨isB_ok (isB_map (s.block n).1), ?_⟩
        repeat ((conv => whnf); first | refine Br.t ?_ | refine Br.f ?_ | refine ⟨rfl, ?_⟩)
        conv => whnf
        refine fin (target := [rdB (s.block n).2]) rfl (by simp) (rdB_cl _) rfl rfl
      · have c2 : ¬ d % 4 = 2 := by rw [m2] at c2; simpa using c2
        have er : rdo (d, n, b, m) s = (txtN (s.set n).1, (s.set n).2) := by unfold rdo; rw [if_neg c0, if_neg c1, if_neg c2]
        have hv := set_lt hok n
        rw [er]
        repeat ((conv => whnf); first | refine Br.t ?_ | refine Br.f ?_ | refine ⟨rfl, ?_⟩)
        conv => whnf
        refine CallW.mono (atR [] [_] (set29 s hok n o2) rfl rfl) ?_
        rintro r st' ⟨rfl, rfl⟩
        repeat ((conv => whnf); first | refine Br.t ?_ | refine Br.f ?_ | refine ⟨rfl, ?_⟩)
        conv => whnf
        rw [show IntKind.i64.wrap ((s.set n).1 : Int) = (s.set n).1 from i64_id (by omega) (by omega)]
        repeat ((conv => whnf); first | refine Br.t ?_ | refine Br.f ?_ | refine ⟨rfl, ?_⟩)
        conv => whnf
        refine Br.mk (fun q => ?_) (fun q => ?_)
        · have q : (s.set n).1 = 0 := by simp at q; omega
          rw [show txtN (s.set n).1 = [] by unfold txtN; rw [if_pos q]]
          repeat ((conv => whnf); first | refine Br.t ?_ | refine Br.f ?_ | refine ⟨rfl, ?_⟩)
          conv => whnf
          refine fin (target := [rdB (s.set n).2]) rfl (by simp) (rdB_cl _) rfl rfl
        · have q : (s.set n).1 ≠ 0 := by simp at q; omega
          rw [show txtN (s.set n).1 = putN (s.set n).1 by unfold txtN; rw [if_neg q]]
          repeat ((conv => whnf); first | refine Br.t ?_ | refine Br.f ?_ | refine ⟨rfl, ?_⟩)
          conv => whnf
          refine CallW.mono ((put17 (s.set n).1 (by omega)).pure _ rfl rfl) ?_
          rintro r st' ⟨rfl, rfl⟩
          repeat ((conv => whnf); first | refine Br.t ?_ | refine Br.f ?_ | refine ⟨rfl, ?_⟩)
          conv => whnf
          refine ⟨isB_ok (isB_map (putN (s.set n).1)), ?_⟩
          repeat ((conv => whnf); first | refine Br.t ?_ | refine Br.f ?_ | refine ⟨rfl, ?_⟩)
          conv => whnf
          refine fin (target := [rdB (s.set n).2]) rfl (by simp) (rdB_cl _) rfl rfl
/-- a reader in a store behind a row that is gone -/
def rdSt (s : Rd) : List Ob := [.dead, rdB s]
theorem rdSt_cl (s : Rd) (m : Nat) : ∀ o ∈ rdSt s, o.cl m := by
  intro o ho
  simp only [rdSt, List.mem_cons, List.not_mem_nil, or_false] at ho
  rcases ho with rfl | rfl
  · trivial
  · intro cs hcs
    simp only [List.mem_singleton] at hcs
    subst hcs
    rfl
theorem str_ne (l : List Nat) : (!((strOf l).data.toList == (⟨#[]⟩ : ByteArray).data.toList)) = !decide (l = []) := by
  cases l with
  | nil => rfl
  | cons a l => simp [strOf, lift]
set_option maxHeartbeats 2000000 in
theorem law5 (bs : List Nat) (hl : bs.length ≤ 9223372036854775807) (hb : ∀ b ∈ bs, b < 256) (l more : List Item) (h1 : l.length ≤ 9223372036854775807) (h2 : more.length ≤ 9223372036854775807) (ok1 : ∀ x ∈ l, okIt x) (ok2 : ∀ x ∈ more, okIt x) :
    CallW Tryd.prog G1 5 [.i (.sl (bs.map by8)), .i (.sl (l.map encIt)), .i (.sl (more.map encIt))] [] (fun r st' => r = .i (.bool true) ∧ st' = []) := by
  refine call_of_bodyF 0 (Nat.le_refl _) Tryd.func5 rfl (fun a w => Tryd.call5 a w) (wpx_ok (own := own0) _ _ _ ?_)
  repeat ((conv => whnf); first | refine Br.t ?_ | refine Br.f ?_ | refine ⟨rfl, ?_⟩)
  conv => whnf
  refine (awake14.pure _ rfl rfl).mono ?_
  rintro r st' ⟨rfl, rfl⟩
  repeat ((conv => whnf); first | refine Br.t ?_ | refine Br.f ?_ | refine ⟨rfl, ?_⟩)
  conv => whnf
  refine Br.mk (fun g => ?_) (fun g => ?_)
  · repeat ((conv => whnf); first | refine Br.t ?_ | refine Br.f ?_ | refine ⟨rfl, ?_⟩)
    conv => whnf
    refine (awake14.pure _ rfl rfl).mono ?_
    rintro r st' ⟨rfl, rfl⟩
    repeat ((conv => whnf); first | refine Br.t ?_ | refine Br.f ?_ | refine ⟨rfl, ?_⟩)
    conv => whnf
    refine fin (target := []) rfl (Nat.zero_le _) (by simp) rfl rfl
  · have g : bs.length ≤ 600 := by simp at g; omega
    repeat ((conv => whnf); first | refine Br.t ?_ | refine Br.f ?_ | refine ⟨rfl, ?_⟩)
    conv => whnf
    refine CallW.mono (((long15 l h1).pure _ rfl rfl).glob) ?_
    rintro r st' ⟨rfl, rfl⟩
    repeat ((conv => whnf); first | refine Br.t ?_ | refine Br.f ?_ | refine ⟨rfl, ?_⟩)
    conv => whnf
    refine Br.mk (fun q1 => ?_) (fun q1 => ?_)
    · repeat ((conv => whnf); first | refine Br.t ?_ | refine Br.f ?_ | refine ⟨rfl, ?_⟩)
      conv => whnf
      refine (awake14.pure _ rfl rfl).mono ?_
      rintro r st' ⟨rfl, rfl⟩
      repeat ((conv => whnf); first | refine Br.t ?_ | refine Br.f ?_ | refine ⟨rfl, ?_⟩)
      conv => whnf
      refine fin (target := []) rfl (Nat.zero_le _) (by simp) rfl rfl
    · repeat ((conv => whnf); first | refine Br.t ?_ | refine Br.f ?_ | refine ⟨rfl, ?_⟩)
      conv => whnf
      refine CallW.mono (((long15 more h2).pure _ rfl rfl).glob) ?_
      rintro r st' ⟨rfl, rfl⟩
      repeat ((conv => whnf); first | refine Br.t ?_ | refine Br.f ?_ | refine ⟨rfl, ?_⟩)
      conv => whnf
      refine Br.mk (fun q2 => ?_) (fun q2 => ?_)
      · repeat ((conv => whnf); first | refine Br.t ?_ | refine Br.f ?_ | refine ⟨rfl, ?_⟩)
        conv => whnf
        refine (awake14.pure _ rfl rfl).mono ?_
        rintro r st' ⟨rfl, rfl⟩
        repeat ((conv => whnf); first | refine Br.t ?_ | refine Br.f ?_ | refine ⟨rfl, ?_⟩)
        conv => whnf
        refine fin (target := []) rfl (Nat.zero_le _) (by simp) rfl rfl
      · repeat ((conv => whnf); first | refine Br.t ?_ | refine Br.f ?_ | refine ⟨rfl, ?_⟩)
        conv => whnf
        refine CallW.mono ((CallW.fresh _ (new33 bs (by omega)) rfl).glob) ?_
        rintro r st' ⟨rfl, rfl⟩
        repeat ((conv => whnf); first | refine Br.t ?_ | refine Br.f ?_ | refine ⟨rfl, ?_⟩)
        conv => whnf
        refine loop_ok (α := Nat × Rd) (fun x => ⟨mkS 95 [(0, .i (.sl (bs.map by8))), (1, .i (.sl (l.map encIt))), (2, .i (.sl (more.map encIt))), (6, .i (.bool false)), (7, .ptr 1 0 0 0), (8, .i (.int .i64 x.1))], rdSt x.2⟩)
          (fun x => x.1 ≤ l.length ∧ x.2.at' bs) (fun x => l.length - x.1) (0, ⟨bs, 0, 0, 0⟩) ⟨Nat.zero_le _, ⟨by simp only; omega, Nat.zero_le _, hb⟩, rfl, Nat.zero_le _⟩
          (Le.slots (by simp [leS, mkS])) (fun x hx => wpx_ok (own := own0) _ _ _ ?_)
        obtain ⟨i, s⟩ := x
        obtain ⟨k1, k2⟩ := hx
        simp only at k1 k2
        dsimp only
        repeat ((conv => whnf); first | refine Br.t ?_ | refine Br.f ?_ | refine ⟨rfl, ?_⟩)
        conv => whnf
        refine Br.mk (fun g1 => ?_) (fun g1 => ?_)
        · have g1 : i < l.length := by simpa using g1
          obtain ⟨x, hx⟩ : ∃ x, x = l[i] := ⟨_, rfl⟩
          have hxm : x ∈ l := hx ▸ List.getElem_mem g1
          have ex : (l.map encIt).getD (i : Int).toNat [] = encIt x := by rw [hx]; exact getD_enc g1
          repeat ((conv => whnf); first | refine Br.t ?_ | refine Br.f ?_ | refine ⟨rfl, ?_⟩)
          conv => whnf
          refine CallW.mono ((atR [_] [] (fault35 s) rfl rfl).glob) ?_
          rintro r st' ⟨rfl, rfl⟩
          repeat ((conv => whnf); first | refine Br.t ?_ | refine Br.f ?_ | refine ⟨rfl, ?_⟩)
          conv => whnf
          refine Br.mk (fun g2 => ?_) (fun g2 => ?_)
          · repeat ((conv => whnf); first | refine Br.t ?_ | refine Br.f ?_ | refine ⟨rfl, ?_⟩)
            conv => whnf
            rw [ex]
            refine ⟨⟨by omega, by simp; omega, rfl⟩, ?_⟩
            repeat ((conv => whnf); first | refine Br.t ?_ | refine Br.f ?_ | refine ⟨rfl, ?_⟩)
            conv => whnf
            refine CallW.mono ((atR [_] [] (read35 x (ok1 x hxm) s k2.1) rfl rfl).glob) ?_
            rintro r st' ⟨rfl, rfl⟩
            repeat ((conv => whnf); first | refine Br.t ?_ | refine Br.f ?_ | refine ⟨rfl, ?_⟩)
            conv => whnf
            refine ⟨(i + 1, (rdo x s).2), ⟨by simp only; omega, at_rdo k2 x⟩, by simp only; omega, Le.slots ?_⟩
            simp [leS, mkS]
            exact i64_id (by omega) (by omega)
          · repeat ((conv => whnf); first | refine Br.t ?_ | refine Br.f ?_ | refine ⟨rfl, ?_⟩)
            conv => whnf
            refine CallW.mono ((atR [_] [] (fault35 s) rfl rfl).glob) ?_
            rintro r st' ⟨rfl, rfl⟩
            repeat ((conv => whnf); first | refine Br.t ?_ | refine Br.f ?_ | refine ⟨rfl, ?_⟩)
            conv => whnf
            refine CallW.mono ((atR [_] [] (left50 s k2.1) rfl rfl).glob) ?_
            rintro r st' ⟨rfl, rfl⟩
            repeat ((conv => whnf); first | refine Br.t ?_ | refine Br.f ?_ | refine ⟨rfl, ?_⟩)
            conv => whnf
            refine Br.mk (fun g3 => ?_) (fun g3 => ?_)
            · repeat ((conv => whnf); first | refine Br.t ?_ | refine Br.f ?_ | refine ⟨rfl, ?_⟩)
              conv => whnf
              refine fin (target := []) rfl (Nat.zero_le _) (by simp) rfl rfl
            · have g3 : s.why ≠ 0 := by simpa using g3
              repeat ((conv => whnf); first | refine Br.t ?_ | refine Br.f ?_ | refine ⟨rfl, ?_⟩)
              conv => whnf
              refine loop_ok (α := Nat) (fun j => ⟨mkS 95 [(0, .i (.sl (bs.map by8))), (2, .i (.sl (more.map encIt))), (6, .i (.bool false)), (7, .ptr 1 0 0 0), (9, .ptr 2 0 0 0), (10, .i (.int .i64 (s.bs.length - s.p : Nat))), (11, .i (.int .i64 j))], [.dead, rdB s, .row 0 2 false [[.i (.int .i64 s.a), .i (.int .i64 s.why)]]]⟩)
                (fun j => j ≤ more.length) (fun j => more.length - j) 0 (Nat.zero_le _)
                (Le.slots (by simp [leS, mkS])) (fun j hj => wpx_ok (own := own0) _ _ _ ?_)
              repeat ((conv => whnf); first | refine Br.t ?_ | refine Br.f ?_ | refine ⟨rfl, ?_⟩)
              conv => whnf
              refine Br.mk (fun g4 => ?_) (fun g4 => ?_)
              · have g4 : j < more.length := by simpa using g4
                obtain ⟨y, hy⟩ : ∃ y, y = more[j] := ⟨_, rfl⟩
                have hym : y ∈ more := hy ▸ List.getElem_mem g4
                have ey : (more.map encIt).getD (j : Int).toNat [] = encIt y := by rw [hy]; exact getD_enc g4
                have eb := rdo_bad g3 y
                repeat ((conv => whnf); first | refine Br.t ?_ | refine Br.f ?_ | refine ⟨rfl, ?_⟩)
                conv => whnf
                rw [ey]
                refine ⟨⟨by omega, by simp; omega, rfl⟩, ?_⟩
                repeat ((conv => whnf); first | refine Br.t ?_ | refine Br.f ?_ | refine ⟨rfl, ?_⟩)
                conv => whnf
                have cr := read35 y (ok2 y hym) s k2.1
                rw [eb] at cr
                refine CallW.mono ((atR [_] [_] cr rfl rfl).glob) ?_
                rintro r st' ⟨rfl, rfl⟩
                repeat ((conv => whnf); first | refine Br.t ?_ | refine Br.f ?_ | refine ⟨rfl, ?_⟩)
                conv => whnf
                refine ⟨j + 1, by omega, by omega, Le.slots ?_⟩
                simp [leS, mkS]
                exact i64_id (by omega) (by omega)
              · repeat ((conv => whnf); first | refine Br.t ?_ | refine Br.f ?_ | refine ⟨rfl, ?_⟩)
                conv => whnf
                have ed : s.done = s := by unfold Rd.done; rw [if_neg (by omega)]
                have cd := done38 s k2.1
                rw [ed] at cd
                have ew : (s.why == 0) = false := by simpa using g3
                rw [ew] at cd
                have hp := k2.1.2.1
                have ha := k2.2.2
                refine draw_ok (own := own0) [] [] [(.agg [.i (.int .i64 s.a), .i (.int .i64 s.why)], [.dead, rdB s, .row 0 2 false [[.i (.int .i64 s.a), .i (.int .i64 s.why)]]]), (.i (.int .i64 (s.bs.length - s.p : Nat)), [.dead, rdB s, .row 0 2 false [[.i (.int .i64 s.a), .i (.int .i64 s.why)]]]), (.i (.bool false), [.dead, rdB s, .row 0 2 false [[.i (.int .i64 s.a), .i (.int .i64 s.why)]]])] rfl (by kernel_rfl) (Nat.zero_le _) ?_
                repeat ((conv => whnf); first | refine Br.t ?_ | refine Br.f ?_ | refine ⟨rfl, ?_⟩)
                conv => whnf
                refine ⟨(atR [_] [_] (fault35 s) rfl rfl).glob, ?_⟩
                repeat ((conv => whnf); first | refine Br.t ?_ | refine Br.f ?_ | refine ⟨rfl, ?_⟩)
                conv => whnf
                refine ⟨by kernel_rfl, ?_⟩
                repeat ((conv => whnf); first | refine Br.t ?_ | refine Br.f ?_ | refine ⟨rfl, ?_⟩)
                conv => whnf
                refine Br.mk (fun z1 => ?_) (fun z1 => by simp at z1)
                repeat ((conv => whnf); first | refine Br.t ?_ | refine Br.f ?_ | refine ⟨rfl, ?_⟩)
                conv => whnf
                refine ⟨(atR [_] [_] (left50 s k2.1) rfl rfl).glob, ?_⟩
                repeat ((conv => whnf); first | refine Br.t ?_ | refine Br.f ?_ | refine ⟨rfl, ?_⟩)
                conv => whnf
                refine Br.mk (fun z2 => ?_) (fun z2 => by simp at z2)
                repeat ((conv => whnf); first | refine Br.t ?_ | refine Br.f ?_ | refine ⟨rfl, ?_⟩)
                conv => whnf
                refine ⟨(atR [_] [_] cd rfl rfl).glob, ?_⟩
                repeat ((conv => whnf); first | refine Br.t ?_ | refine Br.f ?_ | refine ⟨rfl, ?_⟩)
                conv => whnf
                refine ⟨by repeat ((conv => whnf); first | exact trivial | refine ⟨rfl, ?_⟩), trivial, ?_⟩
                conv => whnf
                refine fin (target := []) rfl (Nat.zero_le _) (by simp) ?_ rfl
                rw [decide_eq_true (by rw [List.length_map]; omega)]
        · repeat ((conv => whnf); first | refine Br.t ?_ | refine Br.f ?_ | refine ⟨rfl, ?_⟩)
          conv => whnf
          refine CallW.mono ((atR [_] [] (fault35 s) rfl rfl).glob) ?_
          rintro r st' ⟨rfl, rfl⟩
          repeat ((conv => whnf); first | refine Br.t ?_ | refine Br.f ?_ | refine ⟨rfl, ?_⟩)
          conv => whnf
          refine CallW.mono ((atR [_] [] (left50 s k2.1) rfl rfl).glob) ?_
          rintro r st' ⟨rfl, rfl⟩
          repeat ((conv => whnf); first | refine Br.t ?_ | refine Br.f ?_ | refine ⟨rfl, ?_⟩)
          conv => whnf
          refine Br.mk (fun g3 => ?_) (fun g3 => ?_)
          · repeat ((conv => whnf); first | refine Br.t ?_ | refine Br.f ?_ | refine ⟨rfl, ?_⟩)
            conv => whnf
            refine fin (target := []) rfl (Nat.zero_le _) (by simp) rfl rfl
          · have g3 : s.why ≠ 0 := by simpa using g3
            repeat ((conv => whnf); first | refine Br.t ?_ | refine Br.f ?_ | refine ⟨rfl, ?_⟩)
            conv => whnf
            refine loop_ok (α := Nat) (fun j => ⟨mkS 95 [(0, .i (.sl (bs.map by8))), (2, .i (.sl (more.map encIt))), (6, .i (.bool false)), (7, .ptr 1 0 0 0), (9, .ptr 2 0 0 0), (10, .i (.int .i64 (s.bs.length - s.p : Nat))), (11, .i (.int .i64 j))], [.dead, rdB s, .row 0 2 false [[.i (.int .i64 s.a), .i (.int .i64 s.why)]]]⟩)
              (fun j => j ≤ more.length) (fun j => more.length - j) 0 (Nat.zero_le _)
              (Le.slots (by simp [leS, mkS])) (fun j hj => wpx_ok (own := own0) _ _ _ ?_)
            repeat ((conv => whnf); first | refine Br.t ?_ | refine Br.f ?_ | refine ⟨rfl, ?_⟩)
            conv => whnf
            refine Br.mk (fun g4 => ?_) (fun g4 => ?_)
            · have g4 : j < more.length := by simpa using g4
              obtain ⟨y, hy⟩ : ∃ y, y = more[j] := ⟨_, rfl⟩
              have hym : y ∈ more := hy ▸ List.getElem_mem g4
              have ey : (more.map encIt).getD (j : Int).toNat [] = encIt y := by rw [hy]; exact getD_enc g4
              have eb := rdo_bad g3 y
              repeat ((conv => whnf); first | refine Br.t ?_ | refine Br.f ?_ | refine ⟨rfl, ?_⟩)
              conv => whnf
              rw [ey]
              refine ⟨⟨by omega, by simp; omega, rfl⟩, ?_⟩
              repeat ((conv => whnf); first | refine Br.t ?_ | refine Br.f ?_ | refine ⟨rfl, ?_⟩)
              conv => whnf
              have cr := read35 y (ok2 y hym) s k2.1
              rw [eb] at cr
              refine CallW.mono ((atR [_] [_] cr rfl rfl).glob) ?_
              rintro r st' ⟨rfl, rfl⟩
              repeat ((conv => whnf); first | refine Br.t ?_ | refine Br.f ?_ | refine ⟨rfl, ?_⟩)
              conv => whnf
              refine ⟨j + 1, by omega, by omega, Le.slots ?_⟩
              simp [leS, mkS]
              exact i64_id (by omega) (by omega)
            · repeat ((conv => whnf); first | refine Br.t ?_ | refine Br.f ?_ | refine ⟨rfl, ?_⟩)
              conv => whnf
              have ed : s.done = s := by unfold Rd.done; rw [if_neg (by omega)]
              have cd := done38 s k2.1
              rw [ed] at cd
              have ew : (s.why == 0) = false := by simpa using g3
              rw [ew] at cd
              have hp := k2.1.2.1
              have ha := k2.2.2
              refine draw_ok (own := own0) [] [] [(.agg [.i (.int .i64 s.a), .i (.int .i64 s.why)], [.dead, rdB s, .row 0 2 false [[.i (.int .i64 s.a), .i (.int .i64 s.why)]]]), (.i (.int .i64 (s.bs.length - s.p : Nat)), [.dead, rdB s, .row 0 2 false [[.i (.int .i64 s.a), .i (.int .i64 s.why)]]]), (.i (.bool false), [.dead, rdB s, .row 0 2 false [[.i (.int .i64 s.a), .i (.int .i64 s.why)]]])] rfl (by kernel_rfl) (Nat.zero_le _) ?_
              repeat ((conv => whnf); first | refine Br.t ?_ | refine Br.f ?_ | refine ⟨rfl, ?_⟩)
              conv => whnf
              refine ⟨(atR [_] [_] (fault35 s) rfl rfl).glob, ?_⟩
              repeat ((conv => whnf); first | refine Br.t ?_ | refine Br.f ?_ | refine ⟨rfl, ?_⟩)
              conv => whnf
              refine ⟨by kernel_rfl, ?_⟩
              repeat ((conv => whnf); first | refine Br.t ?_ | refine Br.f ?_ | refine ⟨rfl, ?_⟩)
              conv => whnf
              refine Br.mk (fun z1 => ?_) (fun z1 => by simp at z1)
              repeat ((conv => whnf); first | refine Br.t ?_ | refine Br.f ?_ | refine ⟨rfl, ?_⟩)
              conv => whnf
              refine ⟨(atR [_] [_] (left50 s k2.1) rfl rfl).glob, ?_⟩
              repeat ((conv => whnf); first | refine Br.t ?_ | refine Br.f ?_ | refine ⟨rfl, ?_⟩)
              conv => whnf
              refine Br.mk (fun z2 => ?_) (fun z2 => by simp at z2)
              repeat ((conv => whnf); first | refine Br.t ?_ | refine Br.f ?_ | refine ⟨rfl, ?_⟩)
              conv => whnf
              refine ⟨(atR [_] [_] cd rfl rfl).glob, ?_⟩
              repeat ((conv => whnf); first | refine Br.t ?_ | refine Br.f ?_ | refine ⟨rfl, ?_⟩)
              conv => whnf
              refine ⟨by repeat ((conv => whnf); first | exact trivial | refine ⟨rfl, ?_⟩), trivial, ?_⟩
              conv => whnf
              refine fin (target := []) rfl (Nat.zero_le _) (by simp) ?_ rfl
              rw [decide_eq_true (by rw [List.length_map]; omega)]
end Go.Proofs.YtdbmfnhbgacldaaDoor.Am
