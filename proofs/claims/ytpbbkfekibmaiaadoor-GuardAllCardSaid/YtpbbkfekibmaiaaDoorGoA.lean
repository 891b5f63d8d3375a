/- Contracts: whether justifications hold, and may be; whether sections are shaped. -/
import Derived.Test.YtpbbkfekibmaiaaDoorGnB
namespace Go.Proofs.YtpbbkfekibmaiaaDoor.Am
set_option autoImplicit false
set_option linter.unusedVariables false
set_option linter.unusedSimpArgs false
set_option maxRecDepth 10000
set_option pp.maxSteps 3000
set_option pp.proofs false
abbrev Jst := Int × Int
def encJ (j : Jst) : List I := [.int .i64 j.1, .int .i64 j.2]
def jV (j : Jst) : V := .agg ((encJ j).map .i)
def jB (j : Jst) : Ob := .row 0 2 false [(encJ j).map .i]
def holdsB (j : Jst) (w : Bool) (held live : Nat) : Bool := decide (live = 0) || (decide (j.1 = 1) && !w) || (decide (j.1 = 2) && held.testBit j.2.toNat)
def rightB (j : Jst) (locks : Int) : Bool := if j.1 = 2 then decide (0 ≤ j.2) && decide (j.2 < locks) else decide (0 ≤ j.1) && decide (j.1 < 2) && decide (j.2 = 0)
theorem shr_and (m i : Nat) (hm : m < 4294967296) (hi : i < 32) : (m >>> i) &&& 1 = if m.testBit i = true then 1 else 0 := by
  rw [Nat.and_one_is_mod, Nat.shiftRight_eq_div_pow, Nat.testBit_eq_decide_div_mod_eq]
  rcases Nat.mod_two_eq_zero_or_one (m / 2 ^ i) with h | h <;> rw [h] <;> rfl
theorem sethas (m i : Nat) (hm : m < 4294967296) (hi : i < 32) : CallW Tryd.prog G0 32 [.i (.int .u32 m), .i (.int .i64 i)] [] (fun r st' => r = .i (.bool (m.testBit i)) ∧ st' = []) := by
  refine call_of_bodyF 0 (Nat.le_refl _) Tryd.func32 rfl (fun a w => Tryd.call32 a w) (wpx_ok (own := own0) _ _ _ ?_)
  repeat ((conv => whnf); first | refine Br.t ?_ | refine Br.f ?_ | refine ⟨rfl, ?_⟩)
  conv => whnf
  refine Br.mk (fun h2 => ?_) (fun h2 => by simp at h2; omega)
  repeat ((conv => whnf); first | refine Br.t ?_ | refine Br.f ?_ | refine ⟨rfl, ?_⟩)
  conv => whnf
  refine ⟨by omega, ?_⟩
  have e1 : (m : Int).fdiv (2 ^ min (i : Int).toNat IntKind.u32.bits) = ((m / 2 ^ i : Nat) : Int) := by
    rw [Int.toNat_natCast, Nat.min_eq_left (by show i ≤ 32; omega), show (2 : Int) ^ i = ((2 ^ i : Nat) : Int) by simp, Int.fdiv_eq_ediv_of_nonneg _ (Int.natCast_nonneg _)]
    rfl
  have hle : m / 2 ^ i < 4294967296 := Nat.lt_of_le_of_lt (Nat.div_le_self _ _) hm
  have e2 := and32 (a := m / 2 ^ i) (b := 1) hle (by decide)
  have e3 : m / 2 ^ i &&& 1 = if m.testBit i = true then 1 else 0 := by
    rw [← Nat.shiftRight_eq_div_pow]; exact shr_and m i hm hi
  rw [e1]
  repeat ((conv => whnf); first | refine Br.t ?_ | refine Br.f ?_ | refine ⟨rfl, ?_⟩)
  conv => whnf
  refine fin (target := []) rfl (Nat.zero_le _) (by simp) ?_ rfl
  rw [e3] at e2
  refine congrArg (fun z => V.i (.bool (z == 1))) e2 |>.trans ?_
  cases m.testBit i <;> rfl
theorem holdsP (j : Jst) (w : Bool) (held live : Nat) (hh : held < 4294967296) (hl : j.1 = 2 → 0 ≤ j.2 ∧ j.2 < 32) : CallW Tryd.prog G0 19 [jV j, .i (.bool w), .i (.int .u32 held), .i (.int .u32 live)] [] (fun r st' => r = .i (.bool (holdsB j w held live)) ∧ st' = []) := by
  refine call_of_bodyF 0 (Nat.le_refl _) Tryd.func19 rfl (fun a w => Tryd.call19 a w) (wpx_ok (own := own0) _ _ _ ?_)
  repeat ((conv => whnf); first | refine Br.t ?_ | refine Br.f ?_ | refine ⟨rfl, ?_⟩)
  conv => whnf
  refine Br.mk (fun h0 => ?_) (fun h0 => ?_)
  · have h0 : live = 0 := by simp at h0; omega
    repeat ((conv => whnf); first | refine Br.t ?_ | refine Br.f ?_ | refine ⟨rfl, ?_⟩)
    conv => whnf
    refine fin (target := []) rfl (Nat.zero_le _) (by simp) ?_ rfl
    simp [holdsB, h0]
  · have h0 : ¬ live = 0 := by simp at h0; omega
    repeat ((conv => whnf); first | refine Br.t ?_ | refine Br.f ?_ | refine ⟨rfl, ?_⟩)
    conv => whnf
    refine Br.mk (fun h1 => ?_) (fun h1 => ?_)
    · have h1 : j.1 = 1 := by simpa using h1
      repeat ((conv => whnf); first | refine Br.t ?_ | refine Br.f ?_ | refine ⟨rfl, ?_⟩)
      conv => whnf
      refine fin (target := []) rfl (Nat.zero_le _) (by simp) ?_ rfl
      simp [holdsB, h0, h1]
    · have h1 : ¬ j.1 = 1 := by simpa using h1
      repeat ((conv => whnf); first | refine Br.t ?_ | refine Br.f ?_ | refine ⟨rfl, ?_⟩)
      conv => whnf
      refine Br.mk (fun h2 => ?_) (fun h2 => ?_)
      · have h2 : j.1 = 2 := by simpa using h2
        obtain ⟨a1, a2⟩ := hl h2
        obtain ⟨a, ha⟩ : ∃ a : Nat, (a : Int) = j.2 := ⟨j.2.toNat, by omega⟩
        repeat ((conv => whnf); first | refine Br.t ?_ | refine Br.f ?_ | refine ⟨rfl, ?_⟩)
        conv => whnf
        rw [← ha]
        refine CallW.mono ((sethas held a hh (by omega)).pure _ rfl rfl) ?_
        rintro r st' ⟨rfl, rfl⟩
        repeat ((conv => whnf); first | refine Br.t ?_ | refine Br.f ?_ | refine ⟨rfl, ?_⟩)
        conv => whnf
        refine fin (target := []) rfl (Nat.zero_le _) (by simp) ?_ rfl
        simp [holdsB, h0, h1, h2, ← ha]
      · have h2 : ¬ j.1 = 2 := by simpa using h2
        repeat ((conv => whnf); first | refine Br.t ?_ | refine Br.f ?_ | refine ⟨rfl, ?_⟩)
        conv => whnf
        refine fin (target := []) rfl (Nat.zero_le _) (by simp) ?_ rfl
        simp [holdsB, h0, h1, h2]
theorem holdsR (j : Jst) (w : Bool) (held live : Nat) (hh : held < 4294967296) (hl : j.1 = 2 → 0 ≤ j.2 ∧ j.2 < 32) : CallW Tryd.prog G0 20 [jV j, .i (.bool w), .i (.int .u32 held), .i (.int .u32 live)] [] (fun r st' => r = .i (.bool (holdsB j w held live)) ∧ st' = []) := by
  refine call_of_bodyF 0 (Nat.le_refl _) Tryd.func20 rfl (fun a w => Tryd.call20 a w) (wpx_ok (own := own0) _ _ _ ?_)
  repeat ((conv => whnf); first | refine Br.t ?_ | refine Br.f ?_ | refine ⟨rfl, ?_⟩)
  conv => whnf
  refine Br.mk (fun h0 => ?_) (fun h0 => ?_)
  · have h0 : live = 0 := by simp at h0; omega
    repeat ((conv => whnf); first | refine Br.t ?_ | refine Br.f ?_ | refine ⟨rfl, ?_⟩)
    conv => whnf
    refine fin (target := []) rfl (Nat.zero_le _) (by simp) ?_ rfl
    simp [holdsB, h0]
  · have h0 : ¬ live = 0 := by simp at h0; omega
    repeat ((conv => whnf); first | refine Br.t ?_ | refine Br.f ?_ | refine ⟨rfl, ?_⟩)
    conv => whnf
    refine Br.mk (fun h1 => ?_) (fun h1 => ?_)
    · have h1 : j.1 = 1 := by simpa using h1
      cases w with
      | true =>
        repeat ((conv => whnf); first | refine Br.t ?_ | refine Br.f ?_ | refine ⟨rfl, ?_⟩)
        conv => whnf
        refine Br.mk (fun h2 => by simp at h2; omega) (fun h2 => ?_)
        repeat ((conv => whnf); first | refine Br.t ?_ | refine Br.f ?_ | refine ⟨rfl, ?_⟩)
        conv => whnf
        refine fin (target := []) rfl (Nat.zero_le _) (by simp) ?_ rfl
        simp [holdsB, h0, h1]
      | false =>
        repeat ((conv => whnf); first | refine Br.t ?_ | refine Br.f ?_ | refine ⟨rfl, ?_⟩)
        conv => whnf
        refine fin (target := []) rfl (Nat.zero_le _) (by simp) ?_ rfl
        simp [holdsB, h0, h1]
    · have h1 : ¬ j.1 = 1 := by simpa using h1
      repeat ((conv => whnf); first | refine Br.t ?_ | refine Br.f ?_ | refine ⟨rfl, ?_⟩)
      conv => whnf
      refine Br.mk (fun h2 => ?_) (fun h2 => ?_)
      · have h2 : j.1 = 2 := by simpa using h2
        obtain ⟨a1, a2⟩ := hl h2
        obtain ⟨a, ha⟩ : ∃ a : Nat, (a : Int) = j.2 := ⟨j.2.toNat, by omega⟩
        repeat ((conv => whnf); first | refine Br.t ?_ | refine Br.f ?_ | refine ⟨rfl, ?_⟩)
        conv => whnf
        rw [← ha]
        refine CallW.mono ((has17 held a hh (by omega)).pure _ rfl rfl) ?_
        rintro r st' ⟨rfl, rfl⟩
        repeat ((conv => whnf); first | refine Br.t ?_ | refine Br.f ?_ | refine ⟨rfl, ?_⟩)
        conv => whnf
        refine fin (target := []) rfl (Nat.zero_le _) (by simp) ?_ rfl
        simp [holdsB, h0, h1, h2, ← ha]
      · have h2 : ¬ j.1 = 2 := by simpa using h2
        repeat ((conv => whnf); first | refine Br.t ?_ | refine Br.f ?_ | refine ⟨rfl, ?_⟩)
        conv => whnf
        refine fin (target := []) rfl (Nat.zero_le _) (by simp) ?_ rfl
        simp [holdsB, h0, h1, h2]
/-- sections and functions, from some on -/
def shG : List Sec → List (List Nd) → Bool
  | s :: l, L :: fs => if (shd s).length = L.length ∧ (slv s).length = L.length then shG l fs else false
  | _, _ => true
def shapedB (p : Pg) (l : List Sec) : Bool := decide (l.length = p.fs.length) && shG l p.fs
theorem shapedR (p : Pg) (l : List Sec) (hl : l.length ≤ 40) : CallW Tryd.prog G0 13 [pgV p, .i (.sl (l.map encSec))] [] (fun r st' => r = .i (.bool (shapedB p l)) ∧ st' = []) := by
  refine call_of_bodyF 0 (Nat.le_refl _) Tryd.func13 rfl (fun a w => Tryd.call13 a w) (wpx_ok (own := own0) _ _ _ ?_)
  repeat ((conv => whnf); first | refine Br.t ?_ | refine Br.f ?_ | refine ⟨rfl, ?_⟩)
  conv => whnf
  refine Br.mk (fun h0 => ?_) (fun h0 => ?_)
  · have h0 : ¬ l.length = p.fs.length := by simp at h0; omega
    repeat ((conv => whnf); first | refine Br.t ?_ | refine Br.f ?_ | refine ⟨rfl, ?_⟩)
    conv => whnf
    refine fin (target := []) rfl (Nat.zero_le _) (by simp) ?_ rfl
    simp [shapedB, h0]
  · have h0 : l.length = p.fs.length := by simp at h0; omega
    have eB : shapedB p l = shG l p.fs := by simp [shapedB, h0]
    obtain ⟨R, hR⟩ : ∃ R, R = shG l p.fs := ⟨_, rfl⟩
    rw [eB, ← hR]
    repeat ((conv => whnf); first | refine Br.t ?_ | refine Br.f ?_ | refine ⟨rfl, ?_⟩)
    conv => whnf
    refine loop_ok (α := Nat) (fun f => ⟨mkS 46 [(1, .i (.sl (l.map encSec))), (2, .ptr 0 0 0 0), (5, .i (.int .i64 f))], [pgB p]⟩)
      (fun f => f ≤ l.length ∧ shG (l.drop f) (p.fs.drop f) = R) (fun f => l.length - f) 0 ⟨Nat.zero_le _, hR.symm⟩
      (Le.slots (by simp [leS, mkS])) (fun f hf => wpx_ok (own := own0) _ _ _ ?_)
    obtain ⟨h1, h2⟩ := hf
    repeat ((conv => whnf); first | refine Br.t ?_ | refine Br.f ?_ | refine ⟨rfl, ?_⟩)
    conv => whnf
    refine Br.mk (fun g => ?_) (fun g => ?_)
    · have g : f < l.length := by simpa using g
      obtain ⟨L, hL⟩ : ∃ L, L = p.fs[f]'(by omega) := ⟨_, rfl⟩
      obtain ⟨s, hs⟩ : ∃ s, s = l[f] := ⟨_, rfl⟩
      have eL : (p.fs.map encF).getD (f : Int).toNat [] = encF L := by rw [hL]; exact getD_enc (by omega)
      have es : (l.map encSec).getD (f : Int).toNat [] = encSec s := by rw [hs]; exact getD_enc g
      have edr : p.fs.drop f = L :: p.fs.drop (f + 1) := by rw [hL]; exact List.drop_eq_getElem_cons (by omega)
      have eds : l.drop f = s :: l.drop (f + 1) := by rw [hs]; exact List.drop_eq_getElem_cons g
      rw [edr, eds, shG] at h2
      skip
      refine draw_ok (own := own0) [] [] [] rfl (by kernel_rfl) (Nat.zero_le _) ?_
      repeat ((conv => whnf); first | refine Br.t ?_ | refine Br.f ?_ | refine ⟨rfl, ?_⟩)
      conv => whnf
      (rw [es]; refine ⟨⟨by omega, by simp; omega, rfl⟩, ?_⟩; (repeat ((conv => whnf); first | refine Br.t ?_ | refine Br.f ?_ | refine ⟨rfl, ?_⟩)); (conv => whnf))
      rw [eL]
      refine ⟨⟨by omega, by simp; omega, rfl⟩, ?_⟩
      repeat ((conv => whnf); first | refine Br.t ?_ | refine Br.f ?_ | refine ⟨rfl, ?_⟩)
      conv => whnf
      refine Br.mk (fun k1 => ?_) (fun k1 => ?_)
      · have k1 : ¬ (shd s).length = L.length := by simp at k1; omega
        rw [if_neg (fun h => k1 h.1)] at h2
        subst h2
        repeat ((conv => whnf); first | refine Br.t ?_ | refine Br.f ?_ | refine ⟨rfl, ?_⟩)
        conv => whnf
        refine ⟨by repeat ((conv => whnf); first | exact trivial | refine ⟨rfl, ?_⟩), trivial, ?_⟩
        conv => whnf
        repeat ((conv => whnf); first | refine Br.t ?_ | refine Br.f ?_ | refine ⟨rfl, ?_⟩)
        conv => whnf
        refine fin (target := []) rfl (Nat.zero_le _) (by simp) rfl rfl
      · have k1 : (shd s).length = L.length := by simp at k1; omega
        repeat ((conv => whnf); first | refine Br.t ?_ | refine Br.f ?_ | refine ⟨rfl, ?_⟩)
        conv => whnf
        (rw [es]; refine ⟨⟨by omega, by simp; omega, rfl⟩, ?_⟩; (repeat ((conv => whnf); first | refine Br.t ?_ | refine Br.f ?_ | refine ⟨rfl, ?_⟩)); (conv => whnf))
        rw [eL]
        refine ⟨⟨by omega, by simp; omega, rfl⟩, ?_⟩
        repeat ((conv => whnf); first | refine Br.t ?_ | refine Br.f ?_ | refine ⟨rfl, ?_⟩)
        conv => whnf
        refine ⟨by repeat ((conv => whnf); first | exact trivial | refine ⟨rfl, ?_⟩), trivial, ?_⟩
        conv => whnf
        refine Br.mk (fun k2 => ?_) (fun k2 => ?_)
        · have k2 : ¬ (slv s).length = L.length := by simp at k2; omega
          rw [if_neg (fun h => k2 h.2)] at h2
          subst h2
          repeat ((conv => whnf); first | refine Br.t ?_ | refine Br.f ?_ | refine ⟨rfl, ?_⟩)
          conv => whnf
          refine fin (target := []) rfl (Nat.zero_le _) (by simp) rfl rfl
        · have k2 : (slv s).length = L.length := by simp at k2; omega
          rw [if_pos ⟨k1, k2⟩] at h2
          repeat ((conv => whnf); first | refine Br.t ?_ | refine Br.f ?_ | refine ⟨rfl, ?_⟩)
          conv => whnf
          refine ⟨f + 1, ⟨by omega, h2⟩, by omega, Le.back (fun _ => 0) (by intro id hid; rfl) (by simp) rfl ?_ ?_ ?_⟩
          · intro o ho
            simp only [List.mem_singleton] at ho
            subst ho
            exact pgB_cl p _
          · simp [leS, mkS, V.up]
            exact i64_id (by omega) (by omega)
          · rfl
    · have g : f = l.length := by simp at g; omega
      subst g
      rw [List.drop_length, shG] at h2
      subst h2
      repeat ((conv => whnf); first | refine Br.t ?_ | refine Br.f ?_ | refine ⟨rfl, ?_⟩)
      conv => whnf
      refine fin (target := []) rfl (Nat.zero_le _) (by simp) rfl rfl
      all_goals (intros; simp_all)
end Go.Proofs.YtpbbkfekibmaiaaDoor.Am
