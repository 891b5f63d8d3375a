/- Contracts: sets of ids, accesses of nodes, sections. -/
import Derived.Test.YtpbbkfekibmaiaaDoorWxB
namespace Go.Proofs.YtpbbkfekibmaiaaDoor.Am
set_option autoImplicit false
set_option linter.unusedVariables false
set_option linter.unusedSimpArgs false
set_option maxRecDepth 10000
set_option pp.maxSteps 20000
set_option pp.proofs false
def elI (i : Nat) : List I := [.int .i64 i]
theorem least28 (m : Nat) (hm : m < 4294967296) (h0 : m ≠ 0) : CallW Tryd.prog G1 28 [.i (.int .u32 m)] [] (fun r st' => r = .i (.int .i64 (Lib.ctz 32 m : Nat)) ∧ st' = []) := by
  refine call_of_bodyF 0 (Nat.le_refl _) Tryd.func28 rfl (fun a w => Tryd.call28 a w) (wpx_ok (own := own0) _ _ _ ?_)
  repeat ((conv => whnf); first | refine Br.t ?_ | refine Br.f ?_ | refine ⟨rfl, ?_⟩)
  conv => whnf
  refine Br.mk (fun h => by simp at h; omega) (fun h => ?_)
  repeat ((conv => whnf); first | refine Br.t ?_ | refine Br.f ?_ | refine ⟨rfl, ?_⟩)
  conv => whnf
  refine ((tz100 m hm h0).pure _ rfl rfl).mono ?_
  rintro r st' ⟨rfl, rfl⟩
  repeat ((conv => whnf); first | refine Br.t ?_ | refine Br.f ?_ | refine ⟨rfl, ?_⟩)
  conv => whnf
  refine fin (target := []) rfl (Nat.zero_le _) (by simp) rfl rfl
theorem has17 (m i : Nat) (hm : m < 4294967296) (hi : i < 32) : CallW Tryd.prog G0 17 [.i (.int .u32 m), .i (.int .i64 i)] [] (fun r st' => r = .i (.bool (m.testBit i)) ∧ st' = []) := by
  refine call_of_bodyF 0 (Nat.le_refl _) Tryd.func17 rfl (fun a w => Tryd.call17 a w) (wpx_ok (own := own0) _ _ _ ?_)
  repeat ((conv => whnf); first | refine Br.t ?_ | refine Br.f ?_ | refine ⟨rfl, ?_⟩)
  conv => whnf
  refine Br.mk (fun h1 => by simp at h1; omega) (fun h1 => ?_)
  repeat ((conv => whnf); first | refine Br.t ?_ | refine Br.f ?_ | refine ⟨rfl, ?_⟩)
  conv => whnf
  refine loop_ok (α := Nat) (fun j => ⟨mkS 25 [(1, .i (.int .i64 i)), (4, .i (.bool false)), (5, .i (.int .u64 (m / 2 ^ j : Nat))), (6, .i (.int .i64 j))], []⟩)
    (fun j => j ≤ i) (fun j => i - j) 0 (Nat.zero_le _)
    (Le.slots (by simp [leS, mkS]; exact u64_small (by omega))) (fun j hj => wpx_ok (own := own0) _ _ _ ?_)
  repeat ((conv => whnf); first | refine Br.t ?_ | refine Br.f ?_ | refine ⟨rfl, ?_⟩)
  conv => whnf
  have hle : m / 2 ^ j < 4294967296 := Nat.lt_of_le_of_lt (Nat.div_le_self _ _) hm
  refine Br.mk (fun h2 => ?_) (fun h2 => ?_)
  · have h2 : j < i := by simp at h2; omega
    repeat ((conv => whnf); first | refine Br.t ?_ | refine Br.f ?_ | refine ⟨rfl, ?_⟩)
    conv => whnf
    refine ⟨by decide, ?_⟩
    repeat ((conv => whnf); first | refine Br.t ?_ | refine Br.f ?_ | refine ⟨rfl, ?_⟩)
    conv => whnf
    refine ⟨j + 1, by omega, by omega, Le.slots ?_⟩
    have e : IntKind.u64.wrap (((m / 2 ^ j : Nat) : Int).tdiv 2) = ((m / 2 ^ (j + 1) : Nat) : Int) := by
      rw [show (((m / 2 ^ j : Nat) : Int).tdiv 2) = ((m / 2 ^ j / 2 : Nat) : Int) from rfl, u64_small (by omega), Nat.div_div_eq_div_mul, ← Nat.pow_succ]
    simp at e
    simp [leS, mkS]
    exact ⟨e, i64_id (by omega) (by omega)⟩
  · have h2 : j = i := by simp at h2; omega
    subst h2
    repeat ((conv => whnf); first | refine Br.t ?_ | refine Br.f ?_ | refine ⟨rfl, ?_⟩)
    conv => whnf
    refine ⟨by decide, ?_⟩
    repeat ((conv => whnf); first | refine Br.t ?_ | refine Br.f ?_ | refine ⟨rfl, ?_⟩)
    conv => whnf
    refine fin (target := []) rfl (Nat.zero_le _) (by simp) ?_ rfl
    rw [show (((m / 2 ^ j : Nat) : Int).tmod 2) = ((m / 2 ^ j % 2 : Nat) : Int) from rfl, Nat.testBit_eq_decide_div_mod_eq]
    rcases Nat.mod_two_eq_zero_or_one (m / 2 ^ j) with h1 | h1 <;> rw [h1] <;> rfl
theorem mul2 {a : Nat} (h : a < 4294967296) : IntKind.u64.wrap ((a : Int) * 2) = ((a * 2 : Nat) : Int) := by
  rw [show (a : Int) * 2 = ((a * 2 : Nat) : Int) by omega, u64_small (by omega)]
theorem mask18 (l : List Nat) (hl : ∀ i ∈ l, i < 32) (hp : l.Pairwise (· < ·)) : CallW Tryd.prog G0 18 [.i (.sl (l.map elI))] [] (fun r st' => r = .i (.int .u32 (pows l : Nat)) ∧ st' = []) := by
  refine call_of_bodyF 0 (Nat.le_refl _) Tryd.func18 rfl (fun a w => Tryd.call18 a w) (wpx_ok (own := own0) _ _ _ ?_)
  have hsm := pows_lt hp hl
  have hlen : l.length ≤ 32 := by rw [← ids_pows hp hl]; exact ids_length _
  have hpt : ∀ j, pows (l.take j) < 4294967296 := fun j => pows_lt (hp.sublist (List.take_sublist j l)) (fun i hi => hl i (List.mem_of_mem_take hi))
  repeat ((conv => whnf); first | refine Br.t ?_ | refine Br.f ?_ | refine ⟨rfl, ?_⟩)
  conv => whnf
  refine loop_ok (α := Nat) (fun j => ⟨mkS 28 [(0, .i (.sl (l.map elI))), (2, .i (.int .u32 0)), (3, .i (.int .u64 (pows (l.take j) : Nat))), (4, .i (.int .i64 j))], []⟩)
    (fun j => j ≤ l.length) (fun j => l.length - j) 0 (Nat.zero_le _)
    (Le.slots (by simp [leS, mkS, pows])) (fun j hj => wpx_ok (own := own0) _ _ _ ?_)
  have hpj := hpt j
  repeat ((conv => whnf); first | refine Br.t ?_ | refine Br.f ?_ | refine ⟨rfl, ?_⟩)
  conv => whnf
  refine Br.mk (fun h2 => ?_) (fun h2 => ?_)
  · have h2 : j < l.length := by simpa using h2
    obtain ⟨x, hx⟩ : ∃ x, x = l[j] := ⟨_, rfl⟩
    have ex : (l.map elI).getD (j : Int).toNat [] = elI x := by rw [hx]; exact getD_enc h2
    have et : l.take (j + 1) = l.take j ++ [x] := by rw [hx]; simp
    have hx32 : x < 32 := hl x (hx ▸ List.getElem_mem h2)
    have h1 := hpt (j + 1)
    have h232 := pow32 hx32
    rw [et, pows_snoc] at h1
    repeat ((conv => whnf); first | refine Br.t ?_ | refine Br.f ?_ | refine ⟨rfl, ?_⟩)
    conv => whnf
    refine loop_ok (α := Nat) (fun i => ⟨mkS 28 [(0, .i (.sl (l.map elI))), (2, .i (.int .u32 0)), (3, .i (.int .u64 (pows (l.take j) : Nat))), (4, .i (.int .i64 j)), (5, .i (.int .u64 (2 ^ i : Nat))), (6, .i (.int .i64 i))], []⟩)
      (fun i => i ≤ x) (fun i => x - i) 0 (Nat.zero_le _)
      (Le.slots (by simp [leS, mkS])) (fun i hi => wpx_ok (own := own0) _ _ _ ?_)
    repeat ((conv => whnf); first | refine Br.t ?_ | refine Br.f ?_ | refine ⟨rfl, ?_⟩)
    conv => whnf
    rw [ex]
    refine ⟨⟨by omega, by simp; omega, rfl⟩, ?_⟩
    repeat ((conv => whnf); first | refine Br.t ?_ | refine Br.f ?_ | refine ⟨rfl, ?_⟩)
    conv => whnf
    refine Br.mk (fun h3 => ?_) (fun h3 => ?_)
    · have h3 : i < x := by simp at h3; omega
      have h2i := pow32 (show i < 32 by omega)
      repeat ((conv => whnf); first | refine Br.t ?_ | refine Br.f ?_ | refine ⟨rfl, ?_⟩)
      conv => whnf
      refine ⟨i + 1, by omega, by omega, Le.slots ?_⟩
      have e := mul2 h2i
      simp at e
      simp [leS, mkS]
      exact ⟨by rw [e, Int.pow_succ], i64_id (by omega) (by omega)⟩
    · have h3 : i = x := by simp at h3; omega
      subst h3
      repeat ((conv => whnf); first | refine Br.t ?_ | refine Br.f ?_ | refine ⟨rfl, ?_⟩)
      conv => whnf
      refine ⟨j + 1, by omega, by omega, Le.slots ?_⟩
      rw [et, pows_snoc]
      simp [leS, mkS]
      exact ⟨by rw [show (pows (l.take j) : Int) + 2 ^ i = ((pows (l.take j) + 2 ^ i : Nat) : Int) by simp, u64_small (by omega)], i64_id (by omega) (by omega)⟩
  · have h2 : j = l.length := by simp at h2; omega
    subst h2
    repeat ((conv => whnf); first | refine Br.t ?_ | refine Br.f ?_ | refine ⟨rfl, ?_⟩)
    conv => whnf
    refine fin (target := []) rfl (Nat.zero_le _) (by simp) ?_ rfl
    rw [List.take_length, u32_small hsm]

abbrev Sec := Nat × Nat × List Nat × Nat × Nat × List Nat
def el32 (n : Nat) : List I := [.int .u32 n]
def shd (s : Sec) : List Nat := s.2.2.1
def slv (s : Sec) : List Nat := s.2.2.2.2.2
def encSec (s : Sec) : List I := [.int .u32 s.1, .int .u32 s.2.1, .sl ((shd s).map el32), .int .u32 s.2.2.2.1, .int .u32 s.2.2.2.2.1, .sl ((slv s).map el32)]
def secV (s : Sec) : V := .agg ((encSec s).map .i)
def okSec (s : Sec) : Prop := ((shd s).length ≤ 9223372036854775807 ∧ ∀ m ∈ shd s, m < 4294967296) ∧ ((slv s).length ≤ 9223372036854775807 ∧ ∀ m ∈ slv s, m < 4294967296)
theorem access29 (n : Nd) : CallW Tryd.prog G0 29 [ndV n] [] (fun r st' => r = .tup [.i (.int .i64 n.2.1), .i (.bool (decide (n.1 = 2))), .i (.bool (decide (n.1 = 1) || decide (n.1 = 2)))] ∧ st' = []) := by
  refine call_of_bodyF 0 (Nat.le_refl _) Tryd.func29 rfl (fun a w => Tryd.call29 a w) (wpx_ok (own := own0) _ _ _ ?_)
  repeat ((conv => whnf); first | refine Br.t ?_ | refine Br.f ?_ | refine ⟨rfl, ?_⟩)
  conv => whnf
  refine draw_ok (own := own0) [] [] [] rfl (by kernel_rfl) (Nat.zero_le _) ?_
  repeat ((conv => whnf); first | refine Br.t ?_ | refine Br.f ?_ | refine ⟨rfl, ?_⟩)
  conv => whnf
  refine Br.mk (fun h => ?_) (fun h => ?_)
  · repeat ((conv => whnf); first | refine Br.t ?_ | refine Br.f ?_ | refine ⟨rfl, ?_⟩)
    conv => whnf
    refine ⟨by repeat ((conv => whnf); first | exact trivial | refine ⟨rfl, ?_⟩), trivial, ?_⟩
    conv => whnf
    refine fin (target := []) rfl (Nat.zero_le _) (by simp) ?_ rfl
    simp at h
    simp [h]
  · repeat ((conv => whnf); first | refine Br.t ?_ | refine Br.f ?_ | refine ⟨rfl, ?_⟩)
    conv => whnf
    refine ⟨by repeat ((conv => whnf); first | exact trivial | refine ⟨rfl, ?_⟩), trivial, ?_⟩
    conv => whnf
    refine fin (target := []) rfl (Nat.zero_le _) (by simp) ?_ rfl
    simp at h
    simp [h]
    rfl
def soloB (s : Sec) (i : Nat) : Bool := decide (i < (slv s).length) && decide ((slv s).getD i 0 = 0)
theorem solo30 (s : Sec) (hs : okSec s) (i : Nat) : CallW Tryd.prog G0 30 [secV s, .i (.int .i64 i)] [] (fun r st' => r = .i (.bool (soloB s i)) ∧ st' = []) := by
  refine call_of_bodyF 0 (Nat.le_refl _) Tryd.func30 rfl (fun a w => Tryd.call30 a w) (wpx_ok (own := own0) _ _ _ ?_)
  repeat ((conv => whnf); first | refine Br.t ?_ | refine Br.f ?_ | refine ⟨rfl, ?_⟩)
  conv => whnf
  refine Br.mk (fun g => ?_) (fun g => ?_)
  · have g : i < (slv s).length := by simpa using g
    have ex : ((slv s).map el32).getD (i : Int).toNat [] = el32 (slv s)[i] := getD_enc g
    repeat ((conv => whnf); first | refine Br.t ?_ | refine Br.f ?_ | refine ⟨rfl, ?_⟩)
    conv => whnf
    rw [ex]
    refine ⟨⟨by omega, by simp; omega, rfl⟩, ?_⟩
    repeat ((conv => whnf); first | refine Br.t ?_ | refine Br.f ?_ | refine ⟨rfl, ?_⟩)
    conv => whnf
    refine fin (target := []) rfl (Nat.zero_le _) (by simp) ?_ rfl
    have e : (slv s).getD i 0 = (slv s)[i] := by simp [List.getD_eq_getElem?_getD, g]
    unfold soloB
    rw [e, decide_eq_true g, Bool.true_and]
    generalize (slv s)[i] = x
    cases x <;> rfl
  · have g : ¬ i < (slv s).length := by simp at g; omega
    repeat ((conv => whnf); first | refine Br.t ?_ | refine Br.f ?_ | refine ⟨rfl, ?_⟩)
    conv => whnf
    refine fin (target := []) rfl (Nat.zero_le _) (by simp) ?_ rfl
    unfold soloB
    rw [decide_eq_false g, Bool.false_and]
def meetN (l : List Nat) : Nat := l.foldl (· &&& ·) 4294967295
theorem meet31 (l : List Nat) (hl : l.length ≤ 9223372036854775807) (hm : ∀ m ∈ l, m < 4294967296) : CallW Tryd.prog G0 31 [.i (.sl (l.map el32))] [] (fun r st' => r = .i (.int .u32 (meetN l : Nat)) ∧ st' = []) := by
  refine call_of_bodyF 0 (Nat.le_refl _) Tryd.func31 rfl (fun a w => Tryd.call31 a w) (wpx_ok (own := own0) _ _ _ ?_)
  repeat ((conv => whnf); first | refine Br.t ?_ | refine Br.f ?_ | refine ⟨rfl, ?_⟩)
  conv => whnf
  refine loop_ok (α := Nat × Nat) (fun x => ⟨mkS 17 [(2, .i (.int .u32 0)), (3, .i (.int .u32 x.2)), (6, .i (.sl (l.map el32))), (7, .i (.int .i64 (l.map el32).length)), (8, .i (.int .i64 x.1))], []⟩)
    (fun x => x.1 ≤ l.length ∧ x.2 < 4294967296 ∧ (l.drop x.1).foldl (· &&& ·) x.2 = meetN l) (fun x => l.length - x.1) (0, 4294967295) ⟨Nat.zero_le _, by decide, rfl⟩
    (Le.slots (by simp [leS, mkS])) (fun x hx => wpx_ok (own := own0) _ _ _ ?_)
  obtain ⟨i, m⟩ := x
  obtain ⟨h1, h2, h3⟩ := hx
  simp only at h1 h2 h3
  dsimp only
  repeat ((conv => whnf); first | refine Br.t ?_ | refine Br.f ?_ | refine ⟨rfl, ?_⟩)
  conv => whnf
  refine Br.mk (fun g => ?_) (fun g => ?_)
  · have g : i < l.length := by simpa using g
    obtain ⟨y, hy⟩ : ∃ y, y = l[i] := ⟨_, rfl⟩
    have hym := hm y (hy ▸ List.getElem_mem g)
    have ex : (l.map el32).getD (i : Int).toNat [] = el32 y := by rw [hy]; exact getD_enc g
    have ed : l.drop i = y :: l.drop (i + 1) := by rw [hy]; exact List.drop_eq_getElem_cons g
    rw [ed, List.foldl_cons] at h3
    repeat ((conv => whnf); first | refine Br.t ?_ | refine Br.f ?_ | refine ⟨rfl, ?_⟩)
    conv => whnf
    rw [ex]
    refine ⟨⟨by omega, by simp; omega, rfl⟩, ?_⟩
    repeat ((conv => whnf); first | refine Br.t ?_ | refine Br.f ?_ | refine ⟨rfl, ?_⟩)
    conv => whnf
    refine ⟨(i + 1, m &&& y), ⟨by simp only; omega, and_lt h2, h3⟩, by simp only; omega, Le.slots ?_⟩
    have := and32 h2 hym
    simp at this
    simp [leS, mkS]
    exact ⟨this, i64_id (by omega) (by omega)⟩
  · have g : i = l.length := by simp at g; omega
    subst g
    rw [List.drop_length, List.foldl_nil] at h3
    subst h3
    repeat ((conv => whnf); first | refine Br.t ?_ | refine Br.f ?_ | refine ⟨rfl, ?_⟩)
    conv => whnf
    refine fin (target := []) rfl (Nat.zero_le _) (by simp) rfl rfl
def fewB (l : List Sec) : Bool := decide (l.length ≤ 40) && l.all fun s => decide ((shd s).length ≤ 100) && decide ((slv s).length ≤ 100)
theorem few11 (l : List Sec) (hl : l.length ≤ 9223372036854775807) (hs : ∀ s ∈ l, okSec s) : CallW Tryd.prog G0 11 [.i (.sl (l.map encSec))] [] (fun r st' => r = .i (.bool (fewB l)) ∧ st' = []) := by
  refine call_of_bodyF 0 (Nat.le_refl _) Tryd.func11 rfl (fun a w => Tryd.call11 a w) (wpx_ok (own := own0) _ _ _ ?_)
  repeat ((conv => whnf); first | refine Br.t ?_ | refine Br.f ?_ | refine ⟨rfl, ?_⟩)
  conv => whnf
  refine Br.mk (fun h => ?_) (fun h => ?_)
  · have h : ¬ l.length ≤ 40 := by simp at h; omega
    repeat ((conv => whnf); first | refine Br.t ?_ | refine Br.f ?_ | refine ⟨rfl, ?_⟩)
    conv => whnf
    refine fin (target := []) rfl (Nat.zero_le _) (by simp) ?_ rfl
    simp [fewB, h]
  · have h : l.length ≤ 40 := by simp at h; omega
    repeat ((conv => whnf); first | refine Br.t ?_ | refine Br.f ?_ | refine ⟨rfl, ?_⟩)
    conv => whnf
    refine loop_ok (α := Nat) (fun i => ⟨mkS 29 [(0, .i (.sl (l.map encSec))), (2, .i (.bool false)), (3, .i (.int .i64 i))], []⟩)
      (fun i => i ≤ l.length ∧ (l.take i).all (fun s => decide ((shd s).length ≤ 100) && decide ((slv s).length ≤ 100)) = true) (fun i => l.length - i) 0 ⟨Nat.zero_le _, rfl⟩
      (Le.slots (by simp [leS, mkS])) (fun i hi => wpx_ok (own := own0) _ _ _ ?_)
    obtain ⟨h1, h2⟩ := hi
    repeat ((conv => whnf); first | refine Br.t ?_ | refine Br.f ?_ | refine ⟨rfl, ?_⟩)
    conv => whnf
    refine Br.mk (fun g => ?_) (fun g => ?_)
    · have g : i < l.length := by simpa using g
      obtain ⟨y, hy⟩ : ∃ y, y = l[i] := ⟨_, rfl⟩
      have hym : y ∈ l := hy ▸ List.getElem_mem g
      have ex : (l.map encSec).getD (i : Int).toNat [] = encSec y := by rw [hy]; exact getD_enc g
      have et : l.take (i + 1) = l.take i ++ [y] := by rw [hy]; simp
      have bad : ∀ (d : ¬ ((shd y).length ≤ 100 ∧ (slv y).length ≤ 100)), fewB l = false := fun d => by
        unfold fewB
        rw [Bool.and_eq_false_iff]
        right
        rw [List.all_eq_false]
        exact ⟨y, hym, by simpa using d⟩
      repeat ((conv => whnf); first | refine Br.t ?_ | refine Br.f ?_ | refine ⟨rfl, ?_⟩)
      conv => whnf
      rw [ex]
      refine ⟨⟨by omega, by simp; omega, rfl⟩, ?_⟩
      repeat ((conv => whnf); first | refine Br.t ?_ | refine Br.f ?_ | refine ⟨rfl, ?_⟩)
      conv => whnf
      refine Br.mk (fun d => ?_) (fun d => ?_)
      · have d : ¬ (shd y).length ≤ 100 := by simp at d; omega
        repeat ((conv => whnf); first | refine Br.t ?_ | refine Br.f ?_ | refine ⟨rfl, ?_⟩)
        conv => whnf
        refine fin (target := []) rfl (Nat.zero_le _) (by simp) ?_ rfl
        rw [bad (fun h => d h.1)]
      · have d : (shd y).length ≤ 100 := by simp at d; omega
        repeat ((conv => whnf); first | refine Br.t ?_ | refine Br.f ?_ | refine ⟨rfl, ?_⟩)
        conv => whnf
        rw [ex]
        refine ⟨⟨by omega, by simp; omega, rfl⟩, ?_⟩
        repeat ((conv => whnf); first | refine Br.t ?_ | refine Br.f ?_ | refine ⟨rfl, ?_⟩)
        conv => whnf
        refine Br.mk (fun d2 => ?_) (fun d2 => ?_)
        · have d2 : ¬ (slv y).length ≤ 100 := by simp at d2; omega
          repeat ((conv => whnf); first | refine Br.t ?_ | refine Br.f ?_ | refine ⟨rfl, ?_⟩)
          conv => whnf
          refine fin (target := []) rfl (Nat.zero_le _) (by simp) ?_ rfl
          rw [bad (fun h => d2 h.2)]
        · have d2 : (slv y).length ≤ 100 := by simp at d2; omega
          repeat ((conv => whnf); first | refine Br.t ?_ | refine Br.f ?_ | refine ⟨rfl, ?_⟩)
          conv => whnf
          refine ⟨i + 1, ⟨by omega, by rw [et, List.all_append, h2]; simp [d, d2]⟩, by omega, Le.slots ?_⟩
          simp [leS, mkS]
          exact i64_id (by omega) (by omega)
    · have g : i = l.length := by simp at g; omega
      subst g
      rw [List.take_length] at h2
      repeat ((conv => whnf); first | refine Br.t ?_ | refine Br.f ?_ | refine ⟨rfl, ?_⟩)
      conv => whnf
      refine fin (target := []) rfl (Nat.zero_le _) (by simp) ?_ rfl
      simp only [fewB, h2, Bool.and_true, h, decide_true]
end Go.Proofs.YtpbbkfekibmaiaaDoor.Am
