/- The best justification is the first one that holds for all accesses, by trying. -/
import Derived.Test.YtpbbkfekibmaiaaDoorGoB
import Derived.Test.YtpbbkfekibmaiaaDoorPsF
import Derived.Test.YtpbbkfekibmaiaaDoorRcC
namespace Go.Proofs.YtpbbkfekibmaiaaDoor.Am
set_option autoImplicit false
set_option linter.unusedVariables false
set_option linter.unusedSimpArgs false
set_option maxRecDepth 10000
set_option pp.maxSteps 3000
set_option pp.proofs false
def okA (j : Jst) (A : List (Nat × Bool)) : Bool := A.all fun x => holdsB j x.2 x.1 1
theorem holds_live {j : Jst} {w : Bool} {h lv : Nat} (hl : lv ≠ 0) : holdsB j w h lv = holdsB j w h 1 := by simp [holdsB, hl]
theorem okN_acc (j : Jst) (g : Int) (s : Sec) : ∀ (i : Nat) (L : List Nd), (shd s).length = i + L.length → (slv s).length = i + L.length → okN j g s i L = okA j (accN g s i L)
  | i, [], _, _ => rfl
  | i, n :: r, h1, h2 => by
    simp only [List.length_cons] at h1 h2
    rw [okN, accN, okN_acc j g s (i + 1) r (by omega) (by omega)]
    unfold okA
    rw [List.all_append]
    congr 1
    by_cases h : (n.1 = 1 ∨ n.1 = 2) ∧ n.2.1 = g
    · rw [if_pos h]
      by_cases h0 : (slv s).getD i 0 = 0
      · have hs : soloB s i = true := by unfold soloB; rw [decide_eq_true (by omega), decide_eq_true h0]; rfl
        rw [if_neg (fun hb => by have := hb.2.2.1; rw [hs] at this; cases this)]
        simp only [holdsB, h0]
        simp
      · have hs : soloB s i = false := by unfold soloB; rw [decide_eq_false h0, Bool.and_false]
        rw [if_pos ⟨h.1, h.2, hs, by omega⟩]
        simp only [List.all_cons, List.all_nil, Bool.and_true]
        exact holds_live h0
    · rw [if_neg h, if_neg (fun hb => h ⟨hb.1, hb.2.1⟩)]; rfl
theorem shG_get {l : List Sec} {fs : List (List Nd)} (h : shG l fs = true) : ∀ (f : Nat) (s : Sec) (L : List Nd), l[f]? = some s → fs[f]? = some L → (shd s).length = L.length ∧ (slv s).length = L.length := by
  induction l generalizing fs with
  | nil => intro f s L h1; simp at h1
  | cons t l ih =>
    cases fs with
    | nil => intro f s L _ h2; simp at h2
    | cons K fs =>
      rw [shG] at h
      split at h
      · rename_i hk
        intro f s L h1 h2
        cases f with
        | zero => simp at h1 h2; subst h1; subst h2; exact hk
        | succ f => exact ih h f s L (by simpa using h1) (by simpa using h2)
      · cases h
theorem okF_acc (j : Jst) (g : Int) : ∀ (fs : List (List Nd)) (l : List Sec), shG l fs = true → okF j g fs l = okA j (accF g fs l)
  | [], l, _ => by rw [okF, accF]; rfl; intros; simp_all
  | L :: fs, [], _ => by rw [okF, accF]; rfl; intros; simp_all
  | L :: fs, s :: l, h => by
    rw [shG] at h
    split at h
    · rename_i hk
      rw [okF, accF, okF_acc j g fs l h, okN_acc j g s 0 L (by omega) (by omega)]
      unfold okA
      rw [List.all_append]
    · cases h
theorem meet_all (A : List (Nat × Bool)) (i : Nat) (hi : i < 32) : (meetN (A.map Prod.fst)).testBit i = A.all fun x => x.1.testBit i := by
  rw [meetN, meet_bit', show (4294967295 : Nat) = 2 ^ 32 - 1 by decide, Nat.testBit_two_pow_sub_one, decide_eq_true (by simpa using hi), Bool.true_and, List.all_map]
  rfl
theorem okA_lk (i : Nat) (A : List (Nat × Bool)) : okA (lk i) A = A.all fun x => x.1.testBit i := by
  unfold okA
  congr 1
theorem best_same (n : Nat) (hn : n ≤ 32) (A : List (Nat × Bool)) : ∃ j b, bestJ n A = (j, b) ∧ ((tryL n).find? fun j => okA j A) = if b = true then some j else none := by
  unfold bestJ
  by_cases h0 : A.length = 0
  · have : A = [] := List.eq_nil_of_length_eq_zero h0
    subst this
    exact ⟨(0, 0), true, rfl, rfl⟩
  · rw [if_neg h0]
    have e0 : okA (0, 0) A = false := by
      cases A with
      | nil => simp at h0
      | cons a A => simp [okA, holdsB]
    have et : (tryL n).find? (fun j => okA j A) = if A.any Prod.snd = false then some (1, 0) else ((List.range n).map lk).find? fun j => okA j A := by
      have e1 : okA (1, 0) A = !A.any Prod.snd := by
        unfold okA
        rw [List.not_any_eq_all_not]
        congr 1
        funext x
        simp [holdsB]
      unfold tryL
      rw [List.cons_append, List.cons_append, List.nil_append, List.find?_cons, e0, List.find?_cons, e1]
      cases A.any Prod.snd <;> rfl
    rw [et]
    by_cases h1 : A.any Prod.snd = false
    · rw [if_pos h1, if_pos h1]; exact ⟨(1, 0), true, rfl, rfl⟩
    · rw [if_neg h1, if_neg h1]
      obtain ⟨a, ha⟩ : ∃ a, a = meetN (A.map Prod.fst) &&& (2 ^ n - 1) := ⟨_, rfl⟩
      have hbit : ∀ i, i < 32 → a.testBit i = (decide (i < n) && okA (lk i) A) := by
        intro i hi
        rw [ha, Nat.testBit_and, Nat.testBit_two_pow_sub_one, meet_all A i hi, okA_lk, Bool.and_comm]
      have hal : a < 4294967296 := by rw [ha]; exact and_lt (meet_lt' _)
      rw [← ha]
      by_cases h2 : a = 0
      · rw [if_pos h2]
        refine ⟨(0, 0), false, rfl, ?_⟩
        rw [if_neg (by simp), List.find?_eq_none]
        intro j hj
        simp only [List.mem_map, List.mem_range] at hj
        obtain ⟨i, hi, rfl⟩ := hj
        have := hbit i (by omega)
        rw [h2, Nat.zero_testBit, decide_eq_true hi, Bool.true_and] at this
        simp [← this]
      · rw [if_neg h2]
        obtain ⟨c1, c2, c3⟩ := ctz_spec h2 hal
        refine ⟨lk (Lib.ctz 32 a), true, rfl, ?_⟩
        rw [if_pos rfl, List.find?_map]
        have hb := hbit _ c1
        rw [c2] at hb
        have hb := hb.symm
        simp only [Bool.and_eq_true, decide_eq_true_eq] at hb
        have : (List.range n).find? ((fun j => okA j A) ∘ lk) = some (Lib.ctz 32 a) := by
          rw [List.find?_range_eq_some]
          refine ⟨hb.2, List.mem_range.2 hb.1, fun i hi => ?_⟩
          have := hbit i (by omega)
          rw [c3 i hi, decide_eq_true (by omega), Bool.true_and] at this
          simp [← this]
        rw [this]
        rfl
theorem best_law (p : Pg) (l : List Sec) (g : Int) (n : Nat) (hn : n ≤ 32) (h : shG l p.fs = true) : ∃ j b, bestJ n (accF g p.fs l) = (j, b) ∧ bestR p l g n = (j, if b = true then 1 else 0) := by
  obtain ⟨j, b, h1, h2⟩ := best_same n hn (accF g p.fs l)
  refine ⟨if b = true then j else (0, 0), b, ?_, ?_⟩
  · rw [h1]
    cases b with
    | true => rfl
    | false =>
      unfold bestJ at h1
      split at h1
      · cases h1
      · split at h1
        · cases h1
        · split at h1
          · cases h1; rfl
          · cases h1
  · unfold bestR
    have : (fun j => okF j g p.fs l) = fun j => okA j (accF g p.fs l) := by
      funext j
      exact okF_acc j g p.fs l h
    rw [this, h2]
    cases b <;> rfl
set_option maxHeartbeats 2000000 in
theorem guardbest (p : Pg) (hp : okPg p) (l : List Sec) (hl : l.length ≤ 9223372036854775807) (hs : ∀ s ∈ l, okSec s) (g : Int) :
    CallW Tryd.prog G1 3 [pgV p, .i (.sl (l.map encSec)), .i (.int .i64 g)] [] (fun r st' => r = .i (.bool true) ∧ st' = []) := by
  refine call_of_bodyF 0 (Nat.le_refl _) Tryd.func3 rfl (fun a w => Tryd.call3 a w) (wpx_ok (own := own0) _ _ _ ?_)
  repeat ((conv => whnf); first | refine Br.t ?_ | refine Br.f ?_ | refine ⟨rfl, ?_⟩)
  conv => whnf
  refine CallW.mono (awake9.pure _ rfl rfl) ?_
  rintro r st' ⟨rfl, rfl⟩
  repeat ((conv => whnf); first | refine Br.t ?_ | refine Br.f ?_ | refine ⟨rfl, ?_⟩)
  conv => whnf
  refine CallW.mono (((small16 p hp).glob).pure _ rfl rfl) ?_
  rintro r st' ⟨rfl, rfl⟩
  repeat ((conv => whnf); first | refine Br.t ?_ | refine Br.f ?_ | refine ⟨rfl, ?_⟩)
  conv => whnf
  refine Br.mk (fun z => ?_) (fun z => ?_)
  · repeat ((conv => whnf); first | refine Br.t ?_ | refine Br.f ?_ | refine ⟨rfl, ?_⟩)
    conv => whnf
    refine CallW.mono (awake9.pure _ rfl rfl) ?_
    rintro r st' ⟨rfl, rfl⟩
    repeat ((conv => whnf); first | refine Br.t ?_ | refine Br.f ?_ | refine ⟨rfl, ?_⟩)
    conv => whnf
    refine fin (target := []) rfl (Nat.zero_le _) (by simp) rfl rfl
  · have hsm : smallB p = true := by simpa using z
    unfold smallB at hsm
    simp only [Bool.and_eq_true, decide_eq_true_eq, List.all_eq_true] at hsm
    obtain ⟨b1, b2⟩ := hsm
    repeat ((conv => whnf); first | refine Br.t ?_ | refine Br.f ?_ | refine ⟨rfl, ?_⟩)
    conv => whnf
    refine CallW.mono (((few11 l hl hs).glob).pure _ rfl rfl) ?_
    rintro r st' ⟨rfl, rfl⟩
    repeat ((conv => whnf); first | refine Br.t ?_ | refine Br.f ?_ | refine ⟨rfl, ?_⟩)
    conv => whnf
    refine Br.mk (fun z2 => ?_) (fun z2 => ?_)
    · repeat ((conv => whnf); first | refine Br.t ?_ | refine Br.f ?_ | refine ⟨rfl, ?_⟩)
      conv => whnf
      refine CallW.mono (awake9.pure _ rfl rfl) ?_
      rintro r st' ⟨rfl, rfl⟩
      repeat ((conv => whnf); first | refine Br.t ?_ | refine Br.f ?_ | refine ⟨rfl, ?_⟩)
      conv => whnf
      refine fin (target := []) rfl (Nat.zero_le _) (by simp) rfl rfl
    · have hfw : fewB l = true := by simpa using z2
      unfold fewB at hfw
      simp only [Bool.and_eq_true, decide_eq_true_eq, List.all_eq_true] at hfw
      obtain ⟨b3, b4⟩ := hfw
      repeat ((conv => whnf); first | refine Br.t ?_ | refine Br.f ?_ | refine ⟨rfl, ?_⟩)
      conv => whnf
      refine CallW.mono (((refcheck p hp).glob).pure _ rfl rfl) ?_
      rintro r st' ⟨rfl, rfl⟩
      obtain ⟨c1, c2, c4, c3⟩ : ∃ a b c, chk p = (a, b, c) := ⟨_, _, _, rfl⟩
      rw [c3]
      repeat ((conv => whnf); first | refine Br.t ?_ | refine Br.f ?_ | refine ⟨rfl, ?_⟩)
      conv => whnf
      refine Br.mk (fun z3 => ?_) (fun z3 => ?_)
      · repeat ((conv => whnf); first | refine Br.t ?_ | refine Br.f ?_ | refine ⟨rfl, ?_⟩)
        conv => whnf
        refine fin (target := []) rfl (Nat.zero_le _) (by simp) rfl rfl
      · have z3 : c4 = 0 := by simpa using z3
        subst z3
        have ok := chk_zero (p := p) (by rw [c3])
        repeat ((conv => whnf); first | refine Br.t ?_ | refine Br.f ?_ | refine ⟨rfl, ?_⟩)
        conv => whnf
        refine CallW.mono (((shapedR p l b3).glob).pure _ rfl rfl) ?_
        rintro r st' ⟨rfl, rfl⟩
        obtain ⟨q, hq⟩ : ∃ q, q = shapedB p l := ⟨_, rfl⟩
        rw [← hq]
        cases q with
        | false =>
          repeat ((conv => whnf); first | refine Br.t ?_ | refine Br.f ?_ | refine ⟨rfl, ?_⟩)
          conv => whnf
          refine fin (target := []) rfl (Nat.zero_le _) (by simp) rfl rfl
        | true =>
          have hq := hq.symm
          unfold shapedB at hq
          simp only [Bool.and_eq_true, decide_eq_true_eq] at hq
          obtain ⟨q1, q2⟩ := hq
          obtain ⟨n, hn⟩ : ∃ n : Nat, p.l = n := ⟨p.l.toNat, by have := ok.l; omega⟩
          have hn32 : n ≤ 32 := by have := ok.l; omega
          obtain ⟨j, b, e1, e2⟩ := best_law p l g n hn32 q2
          have cP := bestP p l g b1 b2 b3 hs (fun s h => (b4 s h).1) n hn hn32
          have cR := refbest p l g n hn hn32 b1 q1 b2 hs (shG_get q2)
          rw [e1] at cP
          rw [e2] at cR
          repeat ((conv => whnf); first | refine Br.t ?_ | refine Br.f ?_ | refine ⟨rfl, ?_⟩)
          conv => whnf
          refine CallW.mono (cP.pure _ rfl rfl) ?_
          rintro r st' ⟨rfl, rfl⟩
          repeat ((conv => whnf); first | refine Br.t ?_ | refine Br.f ?_ | refine ⟨rfl, ?_⟩)
          conv => whnf
          refine CallW.mono ((cR.glob).pure _ rfl rfl) ?_
          rintro r st' ⟨rfl, rfl⟩
          obtain ⟨j1, j2⟩ := j
          cases b with
          | true =>
            repeat ((conv => whnf); first | refine Br.t ?_ | refine Br.f ?_ | refine ⟨rfl, ?_⟩)
            conv => whnf
            refine ⟨by kernel_rfl, ?_⟩
            repeat ((conv => whnf); first | refine Br.t ?_ | refine Br.f ?_ | refine ⟨rfl, ?_⟩)
            conv => whnf
            refine Br.mk (fun _ => ?_) (fun h => by simp at h)
            repeat ((conv => whnf); first | refine Br.t ?_ | refine Br.f ?_ | refine ⟨rfl, ?_⟩)
            conv => whnf
            refine fin (target := []) rfl (Nat.zero_le _) (by simp) rfl rfl
          | false =>
            repeat ((conv => whnf); first | refine Br.t ?_ | refine Br.f ?_ | refine ⟨rfl, ?_⟩)
            conv => whnf
            refine ⟨by kernel_rfl, ?_⟩
            repeat ((conv => whnf); first | refine Br.t ?_ | refine Br.f ?_ | refine ⟨rfl, ?_⟩)
            conv => whnf
            refine Br.mk (fun _ => ?_) (fun h => by simp at h)
            repeat ((conv => whnf); first | refine Br.t ?_ | refine Br.f ?_ | refine ⟨rfl, ?_⟩)
            conv => whnf
            refine fin (target := []) rfl (Nat.zero_le _) (by simp) rfl rfl
end Go.Proofs.YtpbbkfekibmaiaaDoor.Am
