/- Contracts, part 35: texts of this session, one behind the other. -/
import Derived.Test.YtdbmfnhbgacldaaDoorBdCcodeWrites34
import Derived.Test.YtdbmfnhbgacldaaDoorAmRf
import Derived.Test.YtdbmfnhbgacldaaDoorAmFl
import Derived.Test.YtdbmfnhbgacldaaDoorAmRd
import Derived.Lib.LaidTab
import Derived.Stop.LaidErr
/- Contracts: the document's bytes of a program: the letters of its nodes. -/
namespace Go.Proofs.YtdbmfnhbgacldaaDoor.Am
set_option autoImplicit false
set_option linter.unusedVariables false
set_option linter.unusedSimpArgs false
set_option maxRecDepth 100000
set_option pp.maxSteps 3000
set_option pp.proofs false
def bR (v : Nat) (L : List Nat) : Ob := .row v 1 false (lift (L.map by8))
end Go.Proofs.YtdbmfnhbgacldaaDoor.Am

/- Contracts: the document's bytes of a program. -/
namespace Go.Proofs.YtdbmfnhbgacldaaDoor.Am
set_option autoImplicit false
set_option linter.unusedVariables false
set_option linter.unusedSimpArgs false
set_option maxRecDepth 100000
set_option pp.maxSteps 3000
set_option pp.proofs false
theorem bR_cl (v : Nat) (L : List Nat) (m : Nat) : (bR v L).cl m := cl_lift _ _ _ _ _
end Go.Proofs.YtdbmfnhbgacldaaDoor.Am

/- Contracts: the document's word on which nodes may be. -/
namespace Go.Proofs.YtdbmfnhbgacldaaDoor.Am
set_option autoImplicit false
set_option linter.unusedVariables false
set_option linter.unusedSimpArgs false
set_option maxRecDepth 10000
set_option pp.maxSteps 3000
set_option pp.proofs false
end Go.Proofs.YtdbmfnhbgacldaaDoor.Am

/- The search along calls: what it tells; calls that go round nowhere. -/
namespace Go.Proofs.YtdbmfnhbgacldaaDoor.Am
set_option autoImplicit false
set_option linter.unusedVariables false
set_option linter.unusedSimpArgs false
/-- steps along E, one at least -/
inductive Conn (E : Nat → Nat → Prop) : Nat → Nat → Prop
  | one {a b : Nat} : E a b → Conn E a b
  | step {a b c : Nat} : E a b → Conn E b c → Conn E a c
theorem Conn.trans {E : Nat → Nat → Prop} {a b c : Nat} (h : Conn E a b) (k : Conn E b c) : Conn E a c := by
  induction h with
  | one h => exact .step h k
  | step h _ ih => exact .step h (ih k)
/-- function a has a call of function b -/
def E (fs : List (List Nd)) (a b : Nat) : Prop := ∃ n ∈ fs.getD a [], n.1 = 7 ∧ n.2.1 = (b : Int)
/-! Functions taken out one by one. -/
end Go.Proofs.YtdbmfnhbgacldaaDoor.Am

/- The document's table of calls: what comes to what, by rounds of three. -/
namespace Go.Proofs.YtdbmfnhbgacldaaDoor.Am
set_option autoImplicit false
set_option linter.unusedVariables false
set_option linter.unusedSimpArgs false
def cell (m : List (List Nat)) (a b : Nat) : Nat := (m.getD a []).getD b 0
def put1 (m : List (List Nat)) (a b : Nat) : List (List Nat) := m.set a ((m.getD a []).set b 1)
def on (m : List (List Nat)) (a b : Nat) : Prop := cell m a b = 1
def Sq (n : Nat) (m : List (List Nat)) : Prop := m.length = n ∧ ∀ a, a < n → (m.getD a []).length = n
theorem getD_set_eq {α : Type} (l : List α) (i j : Nat) (x d : α) (h : i < l.length) : (l.set i x).getD j d = if i = j then x else l.getD j d := by
  rw [List.getD_eq_getElem?_getD, List.getD_eq_getElem?_getD, List.getElem?_set]
  by_cases e : i = j
  · subst e; simp [h]
  · simp [e]
theorem Sq.put {n : Nat} {m : List (List Nat)} (h : Sq n m) {a b : Nat} (ha : a < n) : Sq n (put1 m a b) := by
  refine ⟨by unfold put1; rw [List.length_set, h.1], fun c hc => ?_⟩
  unfold put1
  rw [getD_set_eq _ _ _ _ _ (by rw [h.1]; exact ha)]
  split
  · rw [List.length_set]; exact h.2 a ha
  · exact h.2 c hc
/-- steps along E whose inner places are below K -/
inductive Via (E : Nat → Nat → Prop) (K : Nat) : Nat → Nat → Prop
  | one {a b : Nat} : E a b → Via E K a b
  | step {a c b : Nat} : E a c → c < K → Via E K c b → Via E K a b
theorem Via.split {E : Nat → Nat → Prop} {K a b : Nat} (h : Via E (K + 1) a b) : Via E K a b ∨ (Via E K a K ∧ Via E K K b) := by
  induction h with
  | one h => exact .inl (.one h)
  | @step a c b h hc _ ih =>
    by_cases e : c = K
    · subst e
      rcases ih with ih | ih
      · exact .inr ⟨.one h, ih⟩
      · exact .inr ⟨.one h, ih.2⟩
    · rcases ih with ih | ih
      · exact .inl (.step h (by omega) ih)
      · exact .inr ⟨.step h (by omega) ih.1, ih.2⟩
/-- what a round of k keeps: its start m0 -/
structure Inv (fs : List (List Nd)) (m0 m : List (List Nat)) : Prop where
  sq : Sq fs.length m
  sound : ∀ a b, a < fs.length → b < fs.length → on m a b → Conn (E fs) a b
  mono : ∀ a b, on m0 a b → on m a b
end Go.Proofs.YtdbmfnhbgacldaaDoor.Am

/- Contracts: the document's table of calls. -/
namespace Go.Proofs.YtdbmfnhbgacldaaDoor.Am
set_option autoImplicit false
set_option linter.unusedVariables false
set_option linter.unusedSimpArgs false
set_option maxRecDepth 10000
set_option pp.maxSteps 3000
set_option pp.proofs false
/-! The table told as data. -/
end Go.Proofs.YtdbmfnhbgacldaaDoor.Am

/- Contracts: the table of calls, its rows. -/
namespace Go.Proofs.YtdbmfnhbgacldaaDoor.Am
set_option autoImplicit false
set_option linter.unusedVariables false
set_option linter.unusedSimpArgs false
set_option maxRecDepth 10000
set_option pp.maxSteps 3000
set_option pp.proofs false
end Go.Proofs.YtdbmfnhbgacldaaDoor.Am

/- Contracts: the table of calls, in full. -/
namespace Go.Proofs.YtdbmfnhbgacldaaDoor.Am
set_option autoImplicit false
set_option linter.unusedVariables false
set_option linter.unusedSimpArgs false
set_option maxRecDepth 10000
set_option pp.maxSteps 3000
set_option pp.proofs false
end Go.Proofs.YtdbmfnhbgacldaaDoor.Am

/- Contracts: the document's word on what is wrong with a program first is the program's. -/
namespace Go.Proofs.YtdbmfnhbgacldaaDoor.Am
set_option autoImplicit false
set_option linter.unusedVariables false
set_option linter.unusedSimpArgs false
set_option maxRecDepth 10000
set_option pp.maxSteps 3000
set_option pp.proofs false
end Go.Proofs.YtdbmfnhbgacldaaDoor.Am

/- Contracts: the document's check of a program, in full. -/
namespace Go.Proofs.YtdbmfnhbgacldaaDoor.Am
set_option autoImplicit false
set_option linter.unusedVariables false
set_option linter.unusedSimpArgs false
set_option maxRecDepth 10000
set_option pp.maxSteps 3000
set_option pp.proofs false

end Go.Proofs.YtdbmfnhbgacldaaDoor.Am

/- Contracts: a program's digest; the law of a program's bytes. -/
namespace Go.Proofs.YtdbmfnhbgacldaaDoor.Am
set_option autoImplicit false
set_option linter.unusedVariables false
set_option linter.unusedSimpArgs false
set_option maxRecDepth 100000
set_option pp.maxSteps 3000
set_option pp.proofs false
theorem cons_of {α : Type} {n : Nat} {l : List α} (h : l.length = n + 1) : ∃ d t, l = d :: t ∧ t.length = n := by
  cases l with
  | nil => simp at h
  | cons d t => exact ⟨d, t, rfl, by simpa using h⟩
theorem nil_of {α : Type} {l : List α} (h : l.length = 0) : l = [] := List.length_eq_zero_iff.1 h
theorem list32 {l : List Nat} (h : l.length = 32) : ∃ d0 d1 d2 d3 d4 d5 d6 d7 d8 d9 d10 d11 d12 d13 d14 d15 d16 d17 d18 d19 d20 d21 d22 d23 d24 d25 d26 d27 d28 d29 d30 d31, l = [d0, d1, d2, d3, d4, d5, d6, d7, d8, d9, d10, d11, d12, d13, d14, d15, d16, d17, d18, d19, d20, d21, d22, d23, d24, d25, d26, d27, d28, d29, d30, d31] := by
  obtain ⟨d0, t0, rfl, h0⟩ := cons_of h
  obtain ⟨d1, t1, rfl, h1⟩ := cons_of h0
  obtain ⟨d2, t2, rfl, h2⟩ := cons_of h1
  obtain ⟨d3, t3, rfl, h3⟩ := cons_of h2
  obtain ⟨d4, t4, rfl, h4⟩ := cons_of h3
  obtain ⟨d5, t5, rfl, h5⟩ := cons_of h4
  obtain ⟨d6, t6, rfl, h6⟩ := cons_of h5
  obtain ⟨d7, t7, rfl, h7⟩ := cons_of h6
  obtain ⟨d8, t8, rfl, h8⟩ := cons_of h7
  obtain ⟨d9, t9, rfl, h9⟩ := cons_of h8
  obtain ⟨d10, t10, rfl, h10⟩ := cons_of h9
  obtain ⟨d11, t11, rfl, h11⟩ := cons_of h10
  obtain ⟨d12, t12, rfl, h12⟩ := cons_of h11
  obtain ⟨d13, t13, rfl, h13⟩ := cons_of h12
  obtain ⟨d14, t14, rfl, h14⟩ := cons_of h13
  obtain ⟨d15, t15, rfl, h15⟩ := cons_of h14
  obtain ⟨d16, t16, rfl, h16⟩ := cons_of h15
  obtain ⟨d17, t17, rfl, h17⟩ := cons_of h16
  obtain ⟨d18, t18, rfl, h18⟩ := cons_of h17
  obtain ⟨d19, t19, rfl, h19⟩ := cons_of h18
  obtain ⟨d20, t20, rfl, h20⟩ := cons_of h19
  obtain ⟨d21, t21, rfl, h21⟩ := cons_of h20
  obtain ⟨d22, t22, rfl, h22⟩ := cons_of h21
  obtain ⟨d23, t23, rfl, h23⟩ := cons_of h22
  obtain ⟨d24, t24, rfl, h24⟩ := cons_of h23
  obtain ⟨d25, t25, rfl, h25⟩ := cons_of h24
  obtain ⟨d26, t26, rfl, h26⟩ := cons_of h25
  obtain ⟨d27, t27, rfl, h27⟩ := cons_of h26
  obtain ⟨d28, t28, rfl, h28⟩ := cons_of h27
  obtain ⟨d29, t29, rfl, h29⟩ := cons_of h28
  obtain ⟨d30, t30, rfl, h30⟩ := cons_of h29
  obtain ⟨d31, t31, rfl, h31⟩ := cons_of h30
  rw [nil_of h31]
  exact ⟨d0, d1, d2, d3, d4, d5, d6, d7, d8, d9, d10, d11, d12, d13, d14, d15, d16, d17, d18, d19, d20, d21, d22, d23, d24, d25, d26, d27, d28, d29, d30, d31, rfl⟩
def p0 : Pg := ⟨0, 0, 0, [[(9, 0, 0, 0)]]⟩
theorem num_nat2 (n : Nat) (h : n < 128) : putN n = [n] := by rw [putN, dif_pos h]
end Go.Proofs.YtdbmfnhbgacldaaDoor.Am

/- Contracts: sets within all; a section that may be. -/
namespace Go.Proofs.YtdbmfnhbgacldaaDoor.Am
set_option autoImplicit false
set_option linter.unusedVariables false
set_option linter.unusedSimpArgs false
set_option maxRecDepth 100000
set_option pp.maxSteps 3000
set_option pp.proofs false
def encSec (s : Sec) : List I := [.int .u32 s.1, .int .u32 s.2.1, .sl (s.2.2.1.map w4), .int .u32 s.2.2.2.1, .int .u32 s.2.2.2.2.1, .sl (s.2.2.2.2.2.map w4)]
def encJ (j : Jst) : List I := [.int .i64 j.1, .int .i64 j.2]
def encCt (c : Ct) : List I := (c.d.map fun n : Nat => I.int .u8 n) ++ [I.sl (c.ss.map encSec), I.sl (c.js.map encJ)]
def ctV (c : Ct) : V := .agg ((encCt c).map .i)
def secV (s : Sec) : V := .agg ((encSec s).map .i)
def jstV (j : Jst) : V := .agg ((encJ j).map .i)
theorem all16 : CallW Tryd.prog G0 106 [] [] (fun r st' => r = .i (.int .u32 (65535 : Nat)) ∧ st' = []) := by
  have h : CallW Tryd.prog G0 113 [.i (.int .i64 16)] [] (fun r st' => r = .i (.int .u32 (65535 : Nat)) ∧ st' = []) := by
    refine call_of_bodyF 0 (Nat.le_refl _) Tryd.func113 rfl (fun a w => Tryd.call113 a w) (wpx_ok (own := own0) _ _ _ ?_)
    repeat ((conv => whnf); first | refine Br.t ?_ | refine Br.f ?_ | refine ⟨rfl, ?_⟩)
    conv => whnf
    refine ⟨by decide, ?_⟩
    repeat ((conv => whnf); first | refine Br.t ?_ | refine Br.f ?_ | refine ⟨rfl, ?_⟩)
    conv => whnf
    refine fin (target := []) rfl (Nat.zero_le _) (by simp) rfl rfl
  refine call_of_bodyF 0 (Nat.le_refl _) Tryd.func106 rfl (fun a w => Tryd.call106 a w) (wpx_ok (own := own0) _ _ _ ?_)
  repeat ((conv => whnf); first | refine Br.t ?_ | refine Br.f ?_ | refine ⟨rfl, ?_⟩)
  conv => whnf
  refine CallW.mono (h.pure _ rfl rfl) ?_
  rintro r st' ⟨rfl, rfl⟩
  repeat ((conv => whnf); first | refine Br.t ?_ | refine Br.f ?_ | refine ⟨rfl, ?_⟩)
  conv => whnf
  refine fin (target := []) rfl (Nat.zero_le _) (by simp) rfl rfl
theorem all9 : CallW Tryd.prog G0 107 [] [] (fun r st' => r = .i (.int .u32 (511 : Nat)) ∧ st' = []) := by
  have h : CallW Tryd.prog G0 113 [.i (.int .i64 9)] [] (fun r st' => r = .i (.int .u32 (511 : Nat)) ∧ st' = []) := by
    refine call_of_bodyF 0 (Nat.le_refl _) Tryd.func113 rfl (fun a w => Tryd.call113 a w) (wpx_ok (own := own0) _ _ _ ?_)
    repeat ((conv => whnf); first | refine Br.t ?_ | refine Br.f ?_ | refine ⟨rfl, ?_⟩)
    conv => whnf
    refine ⟨by decide, ?_⟩
    repeat ((conv => whnf); first | refine Br.t ?_ | refine Br.f ?_ | refine ⟨rfl, ?_⟩)
    conv => whnf
    refine fin (target := []) rfl (Nat.zero_le _) (by simp) rfl rfl
  refine call_of_bodyF 0 (Nat.le_refl _) Tryd.func107 rfl (fun a w => Tryd.call107 a w) (wpx_ok (own := own0) _ _ _ ?_)
  repeat ((conv => whnf); first | refine Br.t ?_ | refine Br.f ?_ | refine ⟨rfl, ?_⟩)
  conv => whnf
  refine CallW.mono (h.pure _ rfl rfl) ?_
  rintro r st' ⟨rfl, rfl⟩
  repeat ((conv => whnf); first | refine Br.t ?_ | refine Br.f ?_ | refine ⟨rfl, ?_⟩)
  conv => whnf
  refine fin (target := []) rfl (Nat.zero_le _) (by simp) rfl rfl
theorem sless {a b : Nat} (ha : a < 4294967296) (hb : b < 4294967296) : IntKind.u32.wrap ((BitVec.ofInt IntKind.u32.bits (a : Int) &&& ~~~ BitVec.ofInt IntKind.u32.bits (b : Int)).toNat : Nat) = ((less a b : Nat) : Int) := by
  have h1 : (BitVec.ofInt 32 (a : Int)).toNat = a := by
    rw [BitVec.ofInt_natCast, BitVec.toNat_ofNat]; exact Nat.mod_eq_of_lt (by omega)
  have h2 : (BitVec.ofInt 32 (b : Int)).toNat = b := by
    rw [BitVec.ofInt_natCast, BitVec.toNat_ofNat]; exact Nat.mod_eq_of_lt (by omega)
  have e : (BitVec.ofInt 32 (a : Int) &&& ~~~ BitVec.ofInt 32 (b : Int)).toNat = less a b := by
    apply Nat.eq_of_testBit_eq
    intro i
    rw [testBit_less, BitVec.testBit_toNat, BitVec.getLsbD_and, BitVec.getLsbD_not, ← BitVec.testBit_toNat, ← BitVec.testBit_toNat, h1, h2]
    rcases Nat.lt_or_ge i 32 with hi | hi
    · rw [decide_eq_true hi, Bool.true_and]
    · rw [tb32 ha hi]; rfl
  show IntKind.u32.wrap ((BitVec.ofInt 32 (a : Int) &&& ~~~ BitVec.ofInt 32 (b : Int)).toNat : Int) = _
  rw [e]
  exact wraps32 _ (Int.natCast_nonneg _) (by have := less_lt (b := b) ha; omega)
theorem less_in {m k : Nat} : less m (2 ^ k - 1) = 0 ↔ m < 2 ^ k := by
  rw [less_zero]
  constructor
  · intro h
    apply Nat.lt_pow_two_of_testBit
    intro i hi
    cases hb : m.testBit i with
    | false => rfl
    | true =>
      have := h i hb
      rw [Nat.testBit_two_pow_sub_one] at this
      simp at this
      omega
  · intro h i hb
    rw [Nat.testBit_two_pow_sub_one, decide_eq_true_eq]
    apply Nat.lt_of_not_le
    intro hz
    rw [Nat.testBit_lt_two_pow (Nat.lt_of_lt_of_le h (Nat.pow_le_pow_right (by decide) hz))] at hb
    exact absurd hb (by simp)
theorem within112 (m k : Nat) (hm : m < 4294967296) (hk : k ≤ 31) : CallW Tryd.prog G0 112 [.i (.int .u32 m), .i (.int .u32 (2 ^ k - 1 : Nat))] [] (fun r st' => r = .i (.bool (decide (m < 2 ^ k))) ∧ st' = []) := by
  refine call_of_bodyF 0 (Nat.le_refl _) Tryd.func112 rfl (fun a w => Tryd.call112 a w) (wpx_ok (own := own0) _ _ _ ?_)
  have h2 : 2 ^ k < 4294967296 := Nat.pow_lt_pow_right (m := k) (n := 32) (by decide) (by omega)
  have e := sless hm (b := 2 ^ k - 1) (by omega)
  have hi := less_in (m := m) (k := k)
  generalize 2 ^ k - 1 = a at e hi ⊢
  repeat ((conv => whnf); first | refine Br.t ?_ | refine Br.f ?_ | refine ⟨rfl, ?_⟩)
  conv => whnf
  rw [e]
  refine fin (target := []) rfl (Nat.zero_le _) (by simp) ?_ rfl
  have : (((less m a : Nat) : Int) == 0) = decide (m < 2 ^ k) := by
    rw [int0]
    by_cases q : less m a = 0
    · rw [q, decide_eq_true (hi.1 q)]; rfl
    · rw [decide_eq_false (fun z => q (hi.2 z))]; simpa using q
  rw [this]
end Go.Proofs.YtdbmfnhbgacldaaDoor.Am

/- Contracts: a section that may be. -/
namespace Go.Proofs.YtdbmfnhbgacldaaDoor.Am
set_option autoImplicit false
set_option linter.unusedVariables false
set_option linter.unusedSimpArgs false
set_option maxRecDepth 100000
set_option pp.maxSteps 3000
set_option pp.proofs false
def u32B (n : Nat) : Ob := .row 0 1 false [[.i (.int .u32 (n : Nat))]]
theorem u32B_cl (n m : Nat) : ∀ o ∈ [u32B n], o.cl m := by
  intro o ho
  simp only [List.mem_singleton] at ho
  subst ho
  intro cs hcs
  simp only [List.mem_singleton] at hcs
  subst hcs
  rfl
theorem clos111 (m k : Nat) (hm : m < 4294967296) (hk : k ≤ 31) : CallW Tryd.prog G0 111 [.i (.int .u32 m), .ptr 0 0 0 0] [u32B (2 ^ k - 1)] (fun r st' => r = .i (.bool (!decide (m < 2 ^ k))) ∧ st' = [u32B (2 ^ k - 1)]) := by
  refine call_of_bodyF 1 (Nat.le_refl _) Tryd.func111 rfl (fun a w => Tryd.call111 a w) (wpx_ok (own := own0) _ _ _ ?_)
  have c := within112 m k hm hk
  generalize 2 ^ k - 1 = a at c ⊢
  repeat ((conv => whnf); first | refine Br.t ?_ | refine Br.f ?_ | refine ⟨rfl, ?_⟩)
  conv => whnf
  refine CallW.mono (c.pure _ rfl rfl) ?_
  rintro r st' ⟨rfl, rfl⟩
  repeat ((conv => whnf); first | refine Br.t ?_ | refine Br.f ?_ | refine ⟨rfl, ?_⟩)
  conv => whnf
  refine fin (target := [u32B a]) rfl (by simp) (u32B_cl a 1) rfl rfl
/-- the first set that is not within -/
def ixS (z : Nat) (l : List Nat) : Int := match fstNo (fun m => decide (m < z)) 0 l with | some i => i | none => -1
theorem inS_fst (z : Nat) : ∀ (l : List Nat) (i : Nat), (fstNo (fun m => decide (m < z)) i l).isNone = inS z l
  | [], _ => rfl
  | x :: l, i => by
    rw [fstNo]
    by_cases h : x < z
    · rw [if_pos (by simpa using h), inS_fst z l]; simp [inS, h]
    · rw [if_neg (by simpa using h)]; simp [inS, h]
theorem ixS_in (z : Nat) (l : List Nat) : decide (ixS z l ≥ 0) = !inS z l := by
  rw [← inS_fst z l 0]
  unfold ixS
  cases fstNo (fun m => decide (m < z)) 0 l with
  | none => rfl
  | some i => simp
def ixL (a : Nat) (l : List Nat) (x t8 : V) : List V := [.i (.sl (l.map w4)), .fn (.func 111) [] [.ptr 0 0 0 0], .undef, .undef, .undef, .undef, .undef, .i (.int .i64 l.length), t8, .undef, .undef, .undef, .undef, .undef, .undef, .undef, .undef, .undef, .undef]
set_option maxHeartbeats 4000000 in
theorem index116 (k : Nat) (hk : k ≤ 31) (l : List Nat) (hl : l.length ≤ 1000000) (hm : ∀ m ∈ l, m < 4294967296) :
    CallW Tryd.prog G0 116 [.i (.sl (l.map w4)), .fn (.func 111) [] [.ptr 0 0 0 0]] [u32B (2 ^ k - 1)] (fun r st' => r = .i (.int .i64 (ixS (2 ^ k) l)) ∧ st' = [u32B (2 ^ k - 1)]) := by
  refine call_of_bodyF 1 (Nat.le_refl _) Tryd.func116 rfl (fun a w => Tryd.call116 a w) (wpx_ok (own := own0) _ _ _ ?_)
  have cc := fun m hm => clos111 m k hm hk
  generalize 2 ^ k - 1 = a at cc ⊢
  repeat ((conv => whnf); first | refine Br.t ?_ | refine Br.f ?_ | refine ⟨rfl, ?_⟩)
  conv => whnf
  refine loop_ok (α := Nat) (fun i => ⟨ixL a l .undef (.i (.int .i64 i)), [u32B a]⟩) (fun i => i ≤ l.length ∧ ∀ x ∈ l.take i, decide (x < 2 ^ k) = true) (fun i => l.length - i) 0 ⟨Nat.zero_le _, by simp⟩ (Le.slE (by simp [leS, ixL]) rfl) (fun i hi => wpx_ok (own := own0) _ _ _ ?_)
  obtain ⟨hi, hin⟩ := hi
  repeat ((conv => whnf); first | refine Br.t ?_ | refine Br.f ?_ | refine ⟨rfl, ?_⟩)
  conv => whnf
  refine Br.mk (fun g => ?_) (fun g => ?_)
  · have g : i < l.length := by simp at g; omega
    obtain ⟨x, hx⟩ : ∃ x, x = l[i] := ⟨_, rfl⟩
    have ex : (l.map w4).getD ((i : Int)).toNat [] = w4 x := by rw [Int.toNat_natCast, hx]; exact getD_enc g
    have hxm := hm x (hx ▸ List.getElem_mem g)
    repeat ((conv => whnf); first | refine Br.t ?_ | refine Br.f ?_ | refine ⟨rfl, ?_⟩)
    conv => whnf
    refine ⟨⟨by omega, by simp; omega, by rw [ex]; rfl⟩, ?_⟩
    rw [ex]
    repeat ((conv => whnf); first | refine Br.t ?_ | refine Br.f ?_ | refine ⟨rfl, ?_⟩)
    conv => whnf
    refine CallW.mono (cc x hxm) ?_
    rintro r st' ⟨rfl, rfl⟩
    repeat ((conv => whnf); first | refine Br.t ?_ | refine Br.f ?_ | refine ⟨rfl, ?_⟩)
    conv => whnf
    refine Br.mk (fun q => ?_) (fun q => ?_)
    · have q : ¬ x < 2 ^ k := by simpa using q
      have e : ixS (2 ^ k) l = i := by
        unfold ixS
        rw [fstNo_at 0 i l g hin (by rw [← hx]; simpa using q), Nat.zero_add]
      rw [e]
      repeat ((conv => whnf); first | refine Br.t ?_ | refine Br.f ?_ | refine ⟨rfl, ?_⟩)
      conv => whnf
      refine fin (target := [u32B a]) rfl (by simp) (u32B_cl a 1) rfl rfl
    · have q : x < 2 ^ k := by simpa using q
      repeat ((conv => whnf); first | refine Br.t ?_ | refine Br.f ?_ | refine ⟨rfl, ?_⟩)
      conv => whnf
      refine ⟨i + 1, ⟨by omega, fun y hy => ?_⟩, by omega, Le.slE ?_ rfl⟩
      · rw [List.take_add_one, List.getElem?_eq_getElem g] at hy
        rcases List.mem_append.1 hy with hy | hy
        · exact hin y hy
        · simp at hy; subst hy; rw [← hx]; simpa using q
      · simp [leS, ixL]
        exact i64_id (by omega) (by omega)
  · have g : i = l.length := by simp at g; omega
    subst g
    rw [List.take_length] at hin
    have e : ixS (2 ^ k) l = -1 := by unfold ixS; rw [fstNo_all 0 l hin]
    rw [e]
    repeat ((conv => whnf); first | refine Br.t ?_ | refine Br.f ?_ | refine ⟨rfl, ?_⟩)
    conv => whnf
    refine fin (target := [u32B a]) rfl (by simp) (u32B_cl a 1) rfl rfl
theorem contains110 (k : Nat) (hk : k ≤ 31) (l : List Nat) (hl : l.length ≤ 1000000) (hm : ∀ m ∈ l, m < 4294967296) :
    CallW Tryd.prog G0 110 [.i (.sl (l.map w4)), .fn (.func 111) [] [.ptr 0 0 0 0]] [u32B (2 ^ k - 1)] (fun r st' => r = .i (.bool (!inS (2 ^ k) l)) ∧ st' = [u32B (2 ^ k - 1)]) := by
  refine call_of_bodyF 1 (Nat.le_refl _) Tryd.func110 rfl (fun a w => Tryd.call110 a w) (wpx_ok (own := own0) _ _ _ ?_)
  have c := index116 k hk l hl hm
  rw [← ixS_in]
  generalize 2 ^ k - 1 = a at c ⊢
  generalize ixS (2 ^ k) l = n at c ⊢
  repeat ((conv => whnf); first | refine Br.t ?_ | refine Br.f ?_ | refine ⟨rfl, ?_⟩)
  conv => whnf
  refine CallW.mono c ?_
  rintro r st' ⟨rfl, rfl⟩
  repeat ((conv => whnf); first | refine Br.t ?_ | refine Br.f ?_ | refine ⟨rfl, ?_⟩)
  conv => whnf
  refine fin (target := [u32B a]) rfl (by simp) (u32B_cl a 1) rfl rfl
theorem within105 (k : Nat) (hk : k ≤ 31) (l : List Nat) (hl : l.length ≤ 1000000) (hm : ∀ m ∈ l, m < 4294967296) :
    CallW Tryd.prog G0 105 [.i (.int .u32 (2 ^ k - 1 : Nat)), .i (.sl (l.map w4))] [] (fun r st' => r = .i (.bool (inS (2 ^ k) l)) ∧ st' = []) := by
  refine call_of_bodyF 0 (Nat.le_refl _) Tryd.func105 rfl (fun a w => Tryd.call105 a w) (wpx_ok (own := own0) _ _ _ ?_)
  have c := contains110 k hk l hl hm
  generalize 2 ^ k - 1 = a at c ⊢
  repeat ((conv => whnf); first | refine Br.t ?_ | refine Br.f ?_ | refine ⟨rfl, ?_⟩)
  conv => whnf
  refine CallW.mono c ?_
  rintro r st' ⟨rfl, rfl⟩
  repeat ((conv => whnf); first | refine Br.t ?_ | refine Br.f ?_ | refine ⟨rfl, ?_⟩)
  conv => whnf
  refine fin (target := []) rfl (by simp) (by simp) ?_ rfl
  simp
end Go.Proofs.YtdbmfnhbgacldaaDoor.Am

/- Contracts: a section that may be, a justification that may be. -/
namespace Go.Proofs.YtdbmfnhbgacldaaDoor.Am
set_option autoImplicit false
set_option linter.unusedVariables false
set_option linter.unusedSimpArgs false
set_option maxRecDepth 100000
set_option pp.maxSteps 3000
set_option pp.proofs false
def okS (s : Sec) : Prop := s.1 < 4294967296 ∧ s.2.1 < 4294967296 ∧ (s.2.2.1.length ≤ 1000 ∧ ∀ m ∈ s.2.2.1, m < 4294967296) ∧ s.2.2.2.1 < 4294967296 ∧ s.2.2.2.2.1 < 4294967296 ∧ (s.2.2.2.2.2.length ≤ 1000 ∧ ∀ m ∈ s.2.2.2.2.2, m < 4294967296)
def secR (s : Sec) : Ob := .row 0 6 false [(encSec s).map .i]
set_option maxHeartbeats 8000000 in
theorem section96 (s : Sec) (hs : okS s) : CallW Tryd.prog G0 96 [secV s] [] (fun r st' => r = .i (.bool (secB s)) ∧ st' = []) := by
  refine call_of_bodyF 0 (Nat.le_refl _) Tryd.func96 rfl (fun a w => Tryd.call96 a w) (wpx_ok (own := own0) _ _ _ ?_)
  obtain ⟨a, b, H, c, e, L⟩ := s
  obtain ⟨h1, h2, ⟨h3, h4⟩, h5, h6, h7, h8⟩ := hs
  simp only at h1 h2 h3 h4 h5 h6 h7 h8
  have c1 := within105 16 (by decide) [a, b] (by simp) (by simp [h1, h2])
  have c2 := within105 16 (by decide) H (by omega) h4
  have c3 := within105 9 (by decide) [c, e] (by simp) (by simp [h5, h6])
  have c4 := within105 9 (by decide) L (by omega) h8
  have hB : secB (a, b, H, c, e, L) = (decide (1 ≤ H.length) && (decide (H.length ≤ 64) && (decide (L.length = H.length) && (inS 65536 [a, b] && (inS 65536 H && (inS 512 [c, e] && inS 512 L)))))) := by
    simp [secB, inS, Bool.and_assoc]
  rw [hB]
  change CallW _ _ _ _ _ (fun r st' => r = V.i (.bool (inS 65536 [a, b])) ∧ _) at c1
  change CallW _ _ _ _ _ (fun r st' => r = V.i (.bool (inS 65536 H)) ∧ _) at c2
  change CallW _ _ _ _ _ (fun r st' => r = V.i (.bool (inS 512 [c, e])) ∧ _) at c3
  change CallW _ _ _ _ _ (fun r st' => r = V.i (.bool (inS 512 L)) ∧ _) at c4
  generalize inS 65536 [a, b] = b1 at c1 ⊢
  generalize inS 65536 H = b2 at c2 ⊢
  generalize inS 512 [c, e] = b3 at c3 ⊢
  generalize inS 512 L = b4 at c4 ⊢
  repeat ((conv => whnf); first | refine Br.t ?_ | refine Br.f ?_ | refine ⟨rfl, ?_⟩)
  conv => whnf
  refine draw_ok (own := own0) [] [] [(.i (.int .u32 (65535 : Nat)), [secR (a, b, H, c, e, L)]), (.i (.bool b1), [secR (a, b, H, c, e, L)]), (.i (.int .u32 (65535 : Nat)), [secR (a, b, H, c, e, L)]), (.i (.bool b2), [secR (a, b, H, c, e, L)]), (.i (.int .u32 (511 : Nat)), [secR (a, b, H, c, e, L)]), (.i (.bool b3), [secR (a, b, H, c, e, L)]), (.i (.int .u32 (511 : Nat)), [secR (a, b, H, c, e, L)]), (.i (.bool b4), [secR (a, b, H, c, e, L)])] rfl (by kernel_rfl) (Nat.zero_le _) ?_
  repeat ((conv => whnf); first | refine Br.t ?_ | refine Br.f ?_ | refine ⟨rfl, ?_⟩)
  conv => whnf
  refine Br.mk (fun g => ?_) (fun g => ?_)
  · have g : 1 ≤ H.length := by have := of_decide_eq_true g; rw [List.length_map] at this; change ((H.length : Nat) : Int) ≥ 1 at this; omega
    rw [decide_eq_true g, Bool.true_and]
    repeat ((conv => whnf); first | refine Br.t ?_ | refine Br.f ?_ | refine ⟨rfl, ?_⟩)
    conv => whnf
    refine Br.mk (fun g2 => ?_) (fun g2 => ?_)
    · have g2 : H.length ≤ 64 := by have := of_decide_eq_true g2; rw [List.length_map] at this; change ((H.length : Nat) : Int) ≤ 64 at this; omega
      rw [decide_eq_true g2, Bool.true_and]
      repeat ((conv => whnf); first | refine Br.t ?_ | refine Br.f ?_ | refine ⟨rfl, ?_⟩)
      conv => whnf
      refine Br.mk (fun g3 => ?_) (fun g3 => ?_)
      · have g3 : L.length = H.length := by
          rw [List.length_map, List.length_map] at g3
          have : ((L.length : Nat) : Int) = ((H.length : Nat) : Int) := by simpa using g3
          omega
        rw [decide_eq_true g3, Bool.true_and]
        repeat ((conv => whnf); first | refine Br.t ?_ | refine Br.f ?_ | refine ⟨rfl, ?_⟩)
        conv => whnf
        refine ⟨all16.pure _ rfl rfl, ?_⟩
        repeat ((conv => whnf); first | refine Br.t ?_ | refine Br.f ?_ | refine ⟨rfl, ?_⟩)
        conv => whnf
        refine ⟨c1.pure _ rfl rfl, ?_⟩
        repeat ((conv => whnf); first | refine Br.t ?_ | refine Br.f ?_ | refine ⟨rfl, ?_⟩)
        conv => whnf
        refine Br.mk (fun g4 => ?_) (fun g4 => ?_)
        · subst g4
          repeat ((conv => whnf); first | refine Br.t ?_ | refine Br.f ?_ | refine ⟨rfl, ?_⟩)
          conv => whnf
          refine ⟨all16.pure _ rfl rfl, ?_⟩
          repeat ((conv => whnf); first | refine Br.t ?_ | refine Br.f ?_ | refine ⟨rfl, ?_⟩)
          conv => whnf
          refine ⟨c2.pure _ rfl rfl, ?_⟩
          repeat ((conv => whnf); first | refine Br.t ?_ | refine Br.f ?_ | refine ⟨rfl, ?_⟩)
          conv => whnf
          refine Br.mk (fun g5 => ?_) (fun g5 => ?_)
          · subst g5
            repeat ((conv => whnf); first | refine Br.t ?_ | refine Br.f ?_ | refine ⟨rfl, ?_⟩)
            conv => whnf
            refine ⟨all9.pure _ rfl rfl, ?_⟩
            repeat ((conv => whnf); first | refine Br.t ?_ | refine Br.f ?_ | refine ⟨rfl, ?_⟩)
            conv => whnf
            refine ⟨c3.pure _ rfl rfl, ?_⟩
            repeat ((conv => whnf); first | refine Br.t ?_ | refine Br.f ?_ | refine ⟨rfl, ?_⟩)
            conv => whnf
            refine Br.mk (fun g6 => ?_) (fun g6 => ?_)
            · subst g6
              repeat ((conv => whnf); first | refine Br.t ?_ | refine Br.f ?_ | refine ⟨rfl, ?_⟩)
              conv => whnf
              refine ⟨all9.pure _ rfl rfl, ?_⟩
              repeat ((conv => whnf); first | refine Br.t ?_ | refine Br.f ?_ | refine ⟨rfl, ?_⟩)
              conv => whnf
              refine ⟨c4.pure _ rfl rfl, ?_⟩
              repeat ((conv => whnf); first | refine Br.t ?_ | refine Br.f ?_ | refine ⟨rfl, ?_⟩)
              conv => whnf
              refine ⟨by repeat ((conv => whnf); first | exact trivial | refine ⟨rfl, ?_⟩), trivial, ?_⟩
              conv => whnf
              repeat ((conv => whnf); first | refine Br.t ?_ | refine Br.f ?_ | refine ⟨rfl, ?_⟩)
              conv => whnf
              refine fin (target := []) rfl (by simp) (by simp) ?_ rfl
              simp
            · subst g6
              have hno : (true && (true && (false && b4))) = false := rfl
              repeat ((conv => whnf); first | refine Br.t ?_ | refine Br.f ?_ | refine ⟨rfl, ?_⟩)
              conv => whnf
              refine ⟨by repeat ((conv => whnf); first | exact trivial | refine ⟨rfl, ?_⟩), trivial, ?_⟩
              conv => whnf
              repeat ((conv => whnf); first | refine Br.t ?_ | refine Br.f ?_ | refine ⟨rfl, ?_⟩)
              conv => whnf
              refine fin (target := []) rfl (by simp) (by simp) ?_ rfl
              rw [hno]
          · subst g5
            have hno : (true && (false && (b3 && b4))) = false := rfl
            repeat ((conv => whnf); first | refine Br.t ?_ | refine Br.f ?_ | refine ⟨rfl, ?_⟩)
            conv => whnf
            refine ⟨by repeat ((conv => whnf); first | exact trivial | refine ⟨rfl, ?_⟩), trivial, ?_⟩
            conv => whnf
            repeat ((conv => whnf); first | refine Br.t ?_ | refine Br.f ?_ | refine ⟨rfl, ?_⟩)
            conv => whnf
            refine fin (target := []) rfl (by simp) (by simp) ?_ rfl
            rw [hno]
        · subst g4
          have hno : (false && (b2 && (b3 && b4))) = false := rfl
          repeat ((conv => whnf); first | refine Br.t ?_ | refine Br.f ?_ | refine ⟨rfl, ?_⟩)
          conv => whnf
          refine ⟨by repeat ((conv => whnf); first | exact trivial | refine ⟨rfl, ?_⟩), trivial, ?_⟩
          conv => whnf
          repeat ((conv => whnf); first | refine Br.t ?_ | refine Br.f ?_ | refine ⟨rfl, ?_⟩)
          conv => whnf
          refine fin (target := []) rfl (by simp) (by simp) ?_ rfl
          rw [hno]
      · have hno : (decide (L.length = H.length) && (b1 && (b2 && (b3 && b4)))) = false := by
          have : ¬ L.length = H.length := by
            rw [List.length_map, List.length_map] at g3
            have : ¬ ((L.length : Nat) : Int) = ((H.length : Nat) : Int) := by simpa using g3
            omega
          simp [this]
        repeat ((conv => whnf); first | refine Br.t ?_ | refine Br.f ?_ | refine ⟨rfl, ?_⟩)
        conv => whnf
        refine ⟨by repeat ((conv => whnf); first | exact trivial | refine ⟨rfl, ?_⟩), trivial, ?_⟩
        conv => whnf
        repeat ((conv => whnf); first | refine Br.t ?_ | refine Br.f ?_ | refine ⟨rfl, ?_⟩)
        conv => whnf
        refine fin (target := []) rfl (by simp) (by simp) ?_ rfl
        rw [hno]
    · have hno : (decide (H.length ≤ 64) && (decide (L.length = H.length) && (b1 && (b2 && (b3 && b4))))) = false := by
        have : ¬ H.length ≤ 64 := by have := of_decide_eq_false g2; rw [List.length_map] at this; change ¬ ((H.length : Nat) : Int) ≤ 64 at this; omega
        simp [this]
      repeat ((conv => whnf); first | refine Br.t ?_ | refine Br.f ?_ | refine ⟨rfl, ?_⟩)
      conv => whnf
      refine ⟨by repeat ((conv => whnf); first | exact trivial | refine ⟨rfl, ?_⟩), trivial, ?_⟩
      conv => whnf
      repeat ((conv => whnf); first | refine Br.t ?_ | refine Br.f ?_ | refine ⟨rfl, ?_⟩)
      conv => whnf
      refine fin (target := []) rfl (by simp) (by simp) ?_ rfl
      rw [hno]
  · have hno : (decide (1 ≤ H.length) && (decide (H.length ≤ 64) && (decide (L.length = H.length) && (b1 && (b2 && (b3 && b4)))))) = false := by
      have : ¬ 1 ≤ H.length := by have := of_decide_eq_false g; rw [List.length_map] at this; change ¬ ((H.length : Nat) : Int) ≥ 1 at this; omega
      rw [decide_eq_false this]; rfl
    repeat ((conv => whnf); first | refine Br.t ?_ | refine Br.f ?_ | refine ⟨rfl, ?_⟩)
    conv => whnf
    refine ⟨by repeat ((conv => whnf); first | exact trivial | refine ⟨rfl, ?_⟩), trivial, ?_⟩
    conv => whnf
    repeat ((conv => whnf); first | refine Br.t ?_ | refine Br.f ?_ | refine ⟨rfl, ?_⟩)
    conv => whnf
    refine fin (target := []) rfl (by simp) (by simp) ?_ rfl
    rw [hno]
theorem right97 (j : Jst) : CallW Tryd.prog G0 97 [jstV j, .i (.int .i64 16)] [] (fun r st' => r = .i (.bool (jstB j)) ∧ st' = []) := by
  refine call_of_bodyF 0 (Nat.le_refl _) Tryd.func97 rfl (fun a w => Tryd.call97 a w) (wpx_ok (own := own0) _ _ _ ?_)
  obtain ⟨k, v⟩ := j
  unfold jstB
  repeat ((conv => whnf); first | refine Br.t ?_ | refine Br.f ?_ | refine ⟨rfl, ?_⟩)
  conv => whnf
  refine Br.mk (fun g => ?_) (fun g => ?_)
  · have g : k = 2 := by simpa using g
    rw [if_pos g]
    repeat ((conv => whnf); first | refine Br.t ?_ | refine Br.f ?_ | refine ⟨rfl, ?_⟩)
    conv => whnf
    refine Br.mk (fun q => ?_) (fun q => ?_)
    · have q : 0 ≤ v := by simpa using q
      repeat ((conv => whnf); first | refine Br.t ?_ | refine Br.f ?_ | refine ⟨rfl, ?_⟩)
      conv => whnf
      refine fin (target := []) rfl (by simp) (by simp) ?_ rfl
      simp [q]
    · have q : ¬ 0 ≤ v := by simpa using q
      repeat ((conv => whnf); first | refine Br.t ?_ | refine Br.f ?_ | refine ⟨rfl, ?_⟩)
      conv => whnf
      refine fin (target := []) rfl (by simp) (by simp) ?_ rfl
      simp [q]
  · have g : ¬ k = 2 := by simpa using g
    rw [if_neg g]
    repeat ((conv => whnf); first | refine Br.t ?_ | refine Br.f ?_ | refine ⟨rfl, ?_⟩)
    conv => whnf
    refine Br.mk (fun q => ?_) (fun q => ?_)
    · have q : k = 0 := by simpa using q
      repeat ((conv => whnf); first | refine Br.t ?_ | refine Br.f ?_ | refine ⟨rfl, ?_⟩)
      conv => whnf
      refine fin (target := []) rfl (by simp) (by simp) ?_ rfl
      simp [q]; rfl
    · have q : ¬ k = 0 := by simpa using q
      repeat ((conv => whnf); first | refine Br.t ?_ | refine Br.f ?_ | refine ⟨rfl, ?_⟩)
      conv => whnf
      refine Br.mk (fun q2 => ?_) (fun q2 => ?_)
      · have q2 : k = 1 := by simpa using q2
        repeat ((conv => whnf); first | refine Br.t ?_ | refine Br.f ?_ | refine ⟨rfl, ?_⟩)
        conv => whnf
        refine fin (target := []) rfl (by simp) (by simp) ?_ rfl
        simp [q2]; rfl
      · have q2 : ¬ k = 1 := by simpa using q2
        repeat ((conv => whnf); first | refine Br.t ?_ | refine Br.f ?_ | refine ⟨rfl, ?_⟩)
        conv => whnf
        refine fin (target := []) rfl (by simp) (by simp) ?_ rfl
        simp [q, q2]
theorem right74 (j : Jst) : CallW Tryd.prog G0 74 [jstV j, .i (.int .i64 16)] [] (fun r st' => r = .i (.bool (jstB j)) ∧ st' = []) := by
  refine call_of_bodyF 0 (Nat.le_refl _) Tryd.func74 rfl (fun a w => Tryd.call74 a w) (wpx_ok (own := own0) _ _ _ ?_)
  obtain ⟨k, v⟩ := j
  unfold jstB
  repeat ((conv => whnf); first | refine Br.t ?_ | refine Br.f ?_ | refine ⟨rfl, ?_⟩)
  conv => whnf
  refine Br.mk (fun g => ?_) (fun g => ?_)
  · have g : k = 2 := by simpa using g
    rw [if_pos g]
    repeat ((conv => whnf); first | refine Br.t ?_ | refine Br.f ?_ | refine ⟨rfl, ?_⟩)
    conv => whnf
    refine Br.mk (fun q => ?_) (fun q => ?_)
    · have q : 0 ≤ v := by simpa using q
      repeat ((conv => whnf); first | refine Br.t ?_ | refine Br.f ?_ | refine ⟨rfl, ?_⟩)
      conv => whnf
      refine fin (target := []) rfl (by simp) (by simp) ?_ rfl
      simp [q]
    · have q : ¬ 0 ≤ v := by simpa using q
      repeat ((conv => whnf); first | refine Br.t ?_ | refine Br.f ?_ | refine ⟨rfl, ?_⟩)
      conv => whnf
      refine fin (target := []) rfl (by simp) (by simp) ?_ rfl
      simp [q]
  · have g : ¬ k = 2 := by simpa using g
    rw [if_neg g]
    repeat ((conv => whnf); first | refine Br.t ?_ | refine Br.f ?_ | refine ⟨rfl, ?_⟩)
    conv => whnf
    refine Br.mk (fun q => ?_) (fun q => ?_)
    · have q : 0 ≤ k := by simpa using q
      repeat ((conv => whnf); first | refine Br.t ?_ | refine Br.f ?_ | refine ⟨rfl, ?_⟩)
      conv => whnf
      refine Br.mk (fun q2 => ?_) (fun q2 => ?_)
      · have q2 : k < 2 := by simpa using q2
        repeat ((conv => whnf); first | refine Br.t ?_ | refine Br.f ?_ | refine ⟨rfl, ?_⟩)
        conv => whnf
        refine fin (target := []) rfl (by simp) (by simp) ?_ rfl
        have : k = 0 ∨ k = 1 := by omega
        rcases this with rfl | rfl <;> (simp; rfl)
      · have q2 : ¬ k < 2 := by simpa using q2
        have n0 : ¬ k = 0 := by omega
        have n1 : ¬ k = 1 := by omega
        repeat ((conv => whnf); first | refine Br.t ?_ | refine Br.f ?_ | refine ⟨rfl, ?_⟩)
        conv => whnf
        refine fin (target := []) rfl (by simp) (by simp) ?_ rfl
        simp [n0, n1]
    · have q : ¬ 0 ≤ k := by simpa using q
      have n0 : ¬ k = 0 := by omega
      have n1 : ¬ k = 1 := by omega
      repeat ((conv => whnf); first | refine Br.t ?_ | refine Br.f ?_ | refine ⟨rfl, ?_⟩)
      conv => whnf
      refine fin (target := []) rfl (by simp) (by simp) ?_ rfl
      simp [n0, n1]
end Go.Proofs.YtdbmfnhbgacldaaDoor.Am

/- Contracts: which certificates may be. -/
namespace Go.Proofs.YtdbmfnhbgacldaaDoor.Am
set_option autoImplicit false
set_option linter.unusedVariables false
set_option linter.unusedSimpArgs false
set_option maxRecDepth 100000
set_option pp.maxSteps 3000
set_option pp.proofs false
def chkV (r : Nat × Nat) : V := .tup [.i (.int .i64 (r.1 : Nat)), .i (.int .i64 (r.2 : Nat))]
/-- a certificate that a function is given -/
structure OkT (c : Ct) : Prop where
  d : c.d.length = 32
  b : ∀ x ∈ c.d, x < 256
  n : c.ss.length ≤ 9223372036854775807
  m : c.js.length ≤ 9223372036854775807
  s : ∀ x ∈ c.ss, okS x
def ctR (c : Ct) : Ob := .row 0 34 false [(encCt c).map .i]
def l32 (d0 d1 d2 d3 d4 d5 d6 d7 d8 d9 d10 d11 d12 d13 d14 d15 d16 d17 d18 d19 d20 d21 d22 d23 d24 d25 d26 d27 d28 d29 d30 d31 : Nat) : List Nat := [d0, d1, d2, d3, d4, d5, d6, d7, d8, d9, d10, d11, d12, d13, d14, d15, d16, d17, d18, d19, d20, d21, d22, d23, d24, d25, d26, d27, d28, d29, d30, d31]
def ck1 (c : Ct) (i : Nat) : List V := [.undef, .ptr 0 0 0 0, .undef, .undef, .undef, .undef, .undef, .undef, .undef, .undef, .undef, .undef, .undef, .undef, .undef, .undef, .undef, .undef, .undef, .undef, .undef, .undef, .undef, .i (.sl (c.ss.map encSec)), .i (.int .i64 c.ss.length), .i (.int .i64 i)] ++ List.replicate 26 .undef
def ck2 (c : Ct) (i : Nat) : List V := [.undef, .ptr 0 0 0 0, .undef, .undef, .undef, .undef, .undef, .undef, .undef, .undef, .undef, .undef, .undef, .undef, .undef, .undef, .undef, .undef, .undef, .undef, .undef, .undef, .undef, .undef, .undef, .undef, .undef, .undef, .undef, .undef, .undef, .undef, .undef, .undef, .undef, .undef, .i (.sl (c.js.map encJ)), .i (.int .i64 c.js.length), .i (.int .i64 i)] ++ List.replicate 13 .undef
theorem ctR_cl (d0 d1 d2 d3 d4 d5 d6 d7 d8 d9 d10 d11 d12 d13 d14 d15 d16 d17 d18 d19 d20 d21 d22 d23 d24 d25 d26 d27 d28 d29 d30 d31 : Nat) (ss : List Sec) (js : List Jst) (m : Nat) : ∀ o ∈ [ctR ⟨l32 d0 d1 d2 d3 d4 d5 d6 d7 d8 d9 d10 d11 d12 d13 d14 d15 d16 d17 d18 d19 d20 d21 d22 d23 d24 d25 d26 d27 d28 d29 d30 d31, ss, js⟩], o.cl m := by
  intro o ho
  simp only [List.mem_singleton] at ho
  subst ho
  intro cs hcs
  simp only [List.mem_singleton] at hcs
  subst hcs
  rfl
theorem take_all {α : Type} {p : α → Bool} {l : List α} {i : Nat} (g : i < l.length) (h : ∀ x ∈ l.take i, p x = true) (q : p l[i] = true) : ∀ x ∈ l.take (i + 1), p x = true := by
  intro y hy
  rw [List.take_add_one, List.getElem?_eq_getElem g] at hy
  rcases List.mem_append.1 hy with hy | hy
  · exact h y hy
  · simp at hy; subst hy; exact q
set_option maxHeartbeats 8000000 in
theorem check69 (c : Ct) (hc : OkT c) (hs : ∀ x ∈ c.ss, okS x) : CallW Tryd.prog G0 69 [ctV c] [] (fun r st' => r = chkV (chkT c) ∧ st' = []) := by
  refine call_of_bodyF 0 (Nat.le_refl _) Tryd.func69 rfl (fun a w => Tryd.call69 a w) (wpx_ok (own := own0) _ _ _ ?_)
  obtain ⟨d, ss, js⟩ := c
  obtain ⟨h1, h2, h3, h4, _⟩ := hc
  simp only at h1 h2 h3 h4 hs
  obtain ⟨d0, d1, d2, d3, d4, d5, d6, d7, d8, d9, d10, d11, d12, d13, d14, d15, d16, d17, d18, d19, d20, d21, d22, d23, d24, d25, d26, d27, d28, d29, d30, d31, hd⟩ := list32 h1
  replace hd : d = l32 d0 d1 d2 d3 d4 d5 d6 d7 d8 d9 d10 d11 d12 d13 d14 d15 d16 d17 d18 d19 d20 d21 d22 d23 d24 d25 d26 d27 d28 d29 d30 d31 := hd
  subst hd
  unfold chkT
  simp only
  repeat ((conv => whnf); first | refine Br.t ?_ | refine Br.f ?_ | refine ⟨rfl, ?_⟩)
  conv => whnf
  refine Br.mk (fun g => ?_) (fun g => ?_)
  · have g : ss.length = 0 := by simp at g; simp [g]
    rw [if_pos g]
    repeat ((conv => whnf); first | refine Br.t ?_ | refine Br.f ?_ | refine ⟨rfl, ?_⟩)
    conv => whnf
    refine fin (target := []) rfl (by simp) (by simp) rfl rfl
  have g : ¬ ss.length = 0 := by simp at g; simpa using g
  rw [if_neg g]
  repeat ((conv => whnf); first | refine Br.t ?_ | refine Br.f ?_ | refine ⟨rfl, ?_⟩)
  conv => whnf
  refine Br.mk (fun g2 => ?_) (fun g2 => ?_)
  · have g2 : 16 < ss.length := by have := of_decide_eq_true g2; rw [List.length_map] at this; change ((ss.length : Nat) : Int) > 16 at this; omega
    rw [if_pos (Or.inl g2)]
    repeat ((conv => whnf); first | refine Br.t ?_ | refine Br.f ?_ | refine ⟨rfl, ?_⟩)
    conv => whnf
    refine fin (target := []) rfl (by simp) (by simp) rfl rfl
  have g2 : ¬ 16 < ss.length := by have := of_decide_eq_false g2; rw [List.length_map] at this; change ¬ ((ss.length : Nat) : Int) > 16 at this; omega
  repeat ((conv => whnf); first | refine Br.t ?_ | refine Br.f ?_ | refine ⟨rfl, ?_⟩)
  conv => whnf
  refine Br.mk (fun g3 => ?_) (fun g3 => ?_)
  · have g3 : 16 < js.length := by have := of_decide_eq_true g3; rw [List.length_map] at this; change ((js.length : Nat) : Int) > 16 at this; omega
    rw [if_pos (Or.inr g3)]
    repeat ((conv => whnf); first | refine Br.t ?_ | refine Br.f ?_ | refine ⟨rfl, ?_⟩)
    conv => whnf
    refine fin (target := []) rfl (by simp) (by simp) rfl rfl
  have g3 : ¬ 16 < js.length := by have := of_decide_eq_false g3; rw [List.length_map] at this; change ¬ ((js.length : Nat) : Int) > 16 at this; omega
  rw [if_neg (by omega)]
  repeat ((conv => whnf); first | refine Br.t ?_ | refine Br.f ?_ | refine ⟨rfl, ?_⟩)
  conv => whnf
  refine loop_ok (α := Nat) (fun i => ⟨ck1 ⟨l32 d0 d1 d2 d3 d4 d5 d6 d7 d8 d9 d10 d11 d12 d13 d14 d15 d16 d17 d18 d19 d20 d21 d22 d23 d24 d25 d26 d27 d28 d29 d30 d31, ss, js⟩ i, [ctR ⟨l32 d0 d1 d2 d3 d4 d5 d6 d7 d8 d9 d10 d11 d12 d13 d14 d15 d16 d17 d18 d19 d20 d21 d22 d23 d24 d25 d26 d27 d28 d29 d30 d31, ss, js⟩]⟩) (fun i => i ≤ ss.length ∧ ∀ x ∈ ss.take i, secB x = true) (fun i => ss.length - i) 0 ⟨Nat.zero_le _, by simp⟩ (Le.slE (by simp [leS, ck1]) rfl) (fun i hi => wpx_ok (own := own0) _ _ _ ?_)
  obtain ⟨hi, hin⟩ := hi
  repeat ((conv => whnf); first | refine Br.t ?_ | refine Br.f ?_ | refine ⟨rfl, ?_⟩)
  conv => whnf
  refine Br.mk (fun g => ?_) (fun g => ?_)
  · have g : i < ss.length := by simp at g; omega
    obtain ⟨x, hx⟩ : ∃ x, x = ss[i] := ⟨_, rfl⟩
    have ex : (ss.map encSec).getD ((i : Int)).toNat [] = encSec x := by rw [Int.toNat_natCast, hx]; exact getD_enc g
    have cs := section96 x (hs x (hx ▸ List.getElem_mem g))
    repeat ((conv => whnf); first | refine Br.t ?_ | refine Br.f ?_ | refine ⟨rfl, ?_⟩)
    conv => whnf
    refine ⟨⟨by omega, by simp; omega, by rw [ex]; rfl⟩, ?_⟩
    rw [ex]
    repeat ((conv => whnf); first | refine Br.t ?_ | refine Br.f ?_ | refine ⟨rfl, ?_⟩)
    conv => whnf
    refine CallW.mono (cs.pure _ rfl rfl) ?_
    rintro r st' ⟨rfl, rfl⟩
    repeat ((conv => whnf); first | refine Br.t ?_ | refine Br.f ?_ | refine ⟨rfl, ?_⟩)
    conv => whnf
    refine Br.mk (fun q => ?_) (fun q => ?_)
    · have q : secB x = false := by simpa using q
      rw [fstNo_at 0 i ss g hin (by rw [← hx]; exact q), Nat.zero_add]
      repeat ((conv => whnf); first | refine Br.t ?_ | refine Br.f ?_ | refine ⟨rfl, ?_⟩)
      conv => whnf
      refine fin (target := []) rfl (by simp) (by simp) rfl rfl
    · have q : secB x = true := by simpa using q
      repeat ((conv => whnf); first | refine Br.t ?_ | refine Br.f ?_ | refine ⟨rfl, ?_⟩)
      conv => whnf
      refine ⟨i + 1, ⟨by omega, take_all g hin (by rw [← hx]; exact q)⟩, by omega, ?_⟩
      refine (Le.slE (sl' := ck1 ⟨l32 d0 d1 d2 d3 d4 d5 d6 d7 d8 d9 d10 d11 d12 d13 d14 d15 d16 d17 d18 d19 d20 d21 d22 d23 d24 d25 d26 d27 d28 d29 d30 d31, ss, js⟩ (i + 1)) (st' := [ctR ⟨l32 d0 d1 d2 d3 d4 d5 d6 d7 d8 d9 d10 d11 d12 d13 d14 d15 d16 d17 d18 d19 d20 d21 d22 d23 d24 d25 d26 d27 d28 d29 d30 d31, ss, js⟩] ++ [secR x]) (by simp [leS, ck1]; exact i64_id (by omega) (by omega)) rfl).trans (Le.short (Nat.zero_le _) rfl (ctR_cl d0 d1 d2 d3 d4 d5 d6 d7 d8 d9 d10 d11 d12 d13 d14 d15 d16 d17 d18 d19 d20 d21 d22 d23 d24 d25 d26 d27 d28 d29 d30 d31 ss js _))
  have g : i = ss.length := by simp at g; omega
  subst g
  rw [List.take_length] at hin
  rw [fstNo_all 0 ss hin]
  repeat ((conv => whnf); first | refine Br.t ?_ | refine Br.f ?_ | refine ⟨rfl, ?_⟩)
  conv => whnf
  refine loop_ok (α := Nat) (fun i => ⟨ck2 ⟨l32 d0 d1 d2 d3 d4 d5 d6 d7 d8 d9 d10 d11 d12 d13 d14 d15 d16 d17 d18 d19 d20 d21 d22 d23 d24 d25 d26 d27 d28 d29 d30 d31, ss, js⟩ i, [ctR ⟨l32 d0 d1 d2 d3 d4 d5 d6 d7 d8 d9 d10 d11 d12 d13 d14 d15 d16 d17 d18 d19 d20 d21 d22 d23 d24 d25 d26 d27 d28 d29 d30 d31, ss, js⟩]⟩) (fun i => i ≤ js.length ∧ ∀ x ∈ js.take i, jstB x = true) (fun i => js.length - i) 0 ⟨Nat.zero_le _, by simp⟩ (Le.slE (by simp [leS, ck2]) rfl) (fun i hi => wpx_ok (own := own0) _ _ _ ?_)
  obtain ⟨hi, hin⟩ := hi
  repeat ((conv => whnf); first | refine Br.t ?_ | refine Br.f ?_ | refine ⟨rfl, ?_⟩)
  conv => whnf
  refine Br.mk (fun g => ?_) (fun g => ?_)
  · have g : i < js.length := by simp at g; omega
    obtain ⟨x, hx⟩ : ∃ x, x = js[i] := ⟨_, rfl⟩
    have ex : (js.map encJ).getD ((i : Int)).toNat [] = encJ x := by rw [Int.toNat_natCast, hx]; exact getD_enc g
    have cs := right97 x
    repeat ((conv => whnf); first | refine Br.t ?_ | refine Br.f ?_ | refine ⟨rfl, ?_⟩)
    conv => whnf
    refine ⟨⟨by omega, by simp; omega, by rw [ex]; rfl⟩, ?_⟩
    rw [ex]
    repeat ((conv => whnf); first | refine Br.t ?_ | refine Br.f ?_ | refine ⟨rfl, ?_⟩)
    conv => whnf
    refine CallW.mono (cs.pure _ rfl rfl) ?_
    rintro r st' ⟨rfl, rfl⟩
    repeat ((conv => whnf); first | refine Br.t ?_ | refine Br.f ?_ | refine ⟨rfl, ?_⟩)
    conv => whnf
    refine Br.mk (fun q => ?_) (fun q => ?_)
    · have q : jstB x = false := by simpa using q
      rw [fstNo_at ss.length i js g hin (by rw [← hx]; exact q)]
      have e : IntKind.i64.wrap ((((ss.map encSec).length : Nat) : Int) + (i : Int)) = ((ss.length + i : Nat) : Int) := by rw [List.length_map, i64_id (by omega) (by omega)]; omega
      repeat ((conv => whnf); first | refine Br.t ?_ | refine Br.f ?_ | refine ⟨rfl, ?_⟩)
      conv => whnf
      refine fin (target := []) rfl (by simp) (by simp) ?_ rfl
      show V.tup [.i (.int .i64 (IntKind.i64.wrap ((((ss.map encSec).length : Nat) : Int) + (i : Int)))), _] = _
      rw [e]; rfl
    · have q : jstB x = true := by simpa using q
      repeat ((conv => whnf); first | refine Br.t ?_ | refine Br.f ?_ | refine ⟨rfl, ?_⟩)
      conv => whnf
      refine ⟨i + 1, ⟨by omega, take_all g hin (by rw [← hx]; exact q)⟩, by omega, ?_⟩
      refine Le.trans (s' := ⟨ck2 ⟨l32 d0 d1 d2 d3 d4 d5 d6 d7 d8 d9 d10 d11 d12 d13 d14 d15 d16 d17 d18 d19 d20 d21 d22 d23 d24 d25 d26 d27 d28 d29 d30 d31, ss, js⟩ (i + 1), [ctR ⟨l32 d0 d1 d2 d3 d4 d5 d6 d7 d8 d9 d10 d11 d12 d13 d14 d15 d16 d17 d18 d19 d20 d21 d22 d23 d24 d25 d26 d27 d28 d29 d30 d31, ss, js⟩] ++ [.row 0 2 false [(encJ x).map V.i]]⟩) (Le.slE ?_ rfl) (Le.short (Nat.zero_le _) rfl (ctR_cl d0 d1 d2 d3 d4 d5 d6 d7 d8 d9 d10 d11 d12 d13 d14 d15 d16 d17 d18 d19 d20 d21 d22 d23 d24 d25 d26 d27 d28 d29 d30 d31 ss js _))
      simp [leS, ck2]
      exact i64_id (by omega) (by omega)
  have g : i = js.length := by simp at g; omega
  subst g
  rw [List.take_length] at hin
  rw [fstNo_all ss.length js hin]
  repeat ((conv => whnf); first | refine Br.t ?_ | refine Br.f ?_ | refine ⟨rfl, ?_⟩)
  conv => whnf
  refine fin (target := []) rfl (by simp) (by simp) rfl rfl
end Go.Proofs.YtdbmfnhbgacldaaDoor.Am

/- Contracts: which certificates may be, as the document says; small ones. -/
namespace Go.Proofs.YtdbmfnhbgacldaaDoor.Am
set_option autoImplicit false
set_option linter.unusedVariables false
set_option linter.unusedSimpArgs false
set_option maxRecDepth 100000
set_option pp.maxSteps 3000
set_option pp.proofs false
def se1 (i : Nat) : List V := [.undef, .ptr 0 0 0 0, .undef, .i (.int .i64 i)] ++ List.replicate 58 .undef
def rk1 (i : Nat) : List V := [.undef, .ptr 0 0 0 0, .undef, .undef, .i (.int .i64 i)] ++ List.replicate 49 .undef
def rk2 (i : Nat) : List V := [.undef, .ptr 0 0 0 0, .undef, .undef, .undef, .i (.int .i64 i)] ++ List.replicate 48 .undef
def fe1 (i : Nat) : List V := [.undef, .ptr 0 0 0 0, .undef, .i (.int .i64 i)] ++ List.replicate 35 .undef
theorem secB_no {s : Sec} (h : ¬ SecOk s) : secB s = false := by
  cases e : secB s with
  | false => rfl
  | true => exact absurd (secB_ok.1 e) h
set_option maxHeartbeats 8000000 in
theorem section73 (s : Sec) (hs : okS s) : CallW Tryd.prog G0 73 [secV s] [] (fun r st' => r = .i (.bool (secB s)) ∧ st' = []) := by
  refine call_of_bodyF 0 (Nat.le_refl _) Tryd.func73 rfl (fun a w => Tryd.call73 a w) (wpx_ok (own := own0) _ _ _ ?_)
  obtain ⟨a, b, H, c, e, L⟩ := s
  obtain ⟨h1, h2, ⟨h3, h4⟩, h5, h6, h7, h8⟩ := hs
  simp only at h1 h2 h3 h4 h5 h6 h7 h8
  repeat ((conv => whnf); first | refine Br.t ?_ | refine Br.f ?_ | refine ⟨rfl, ?_⟩)
  conv => whnf
  refine Br.mk (fun g => ?_) (fun g => ?_)
  · have hno : ¬ SecOk (a, b, H, c, e, L) := fun h => by
      have g := of_decide_eq_true g; rw [List.length_map] at g; change ((H.length : Nat) : Int) < 1 at g
      have := h.n.1; change 1 ≤ H.length at this; omega
    repeat ((conv => whnf); first | refine Br.t ?_ | refine Br.f ?_ | refine ⟨rfl, ?_⟩)
    conv => whnf
    refine fin (target := []) rfl (by simp) (by simp) ?_ rfl
    rw [secB_no (fun h => hno h)]
  have g : 1 ≤ H.length := by have g := of_decide_eq_false g; rw [List.length_map] at g; change ¬ ((H.length : Nat) : Int) < 1 at g; omega
  repeat ((conv => whnf); first | refine Br.t ?_ | refine Br.f ?_ | refine ⟨rfl, ?_⟩)
  conv => whnf
  refine Br.mk (fun g2 => ?_) (fun g2 => ?_)
  · have hno : ¬ SecOk (a, b, H, c, e, L) := fun h => by
      have g := of_decide_eq_true g2; rw [List.length_map] at g; change ((H.length : Nat) : Int) > 64 at g
      have := h.n.2; change H.length ≤ 64 at this; omega
    repeat ((conv => whnf); first | refine Br.t ?_ | refine Br.f ?_ | refine ⟨rfl, ?_⟩)
    conv => whnf
    refine fin (target := []) rfl (by simp) (by simp) ?_ rfl
    rw [secB_no (fun h => hno h)]
  have g2 : H.length ≤ 64 := by have g := of_decide_eq_false g2; rw [List.length_map] at g; change ¬ ((H.length : Nat) : Int) > 64 at g; omega
  repeat ((conv => whnf); first | refine Br.t ?_ | refine Br.f ?_ | refine ⟨rfl, ?_⟩)
  conv => whnf
  refine Br.mk (fun g3 => ?_) (fun g3 => ?_)
  · have hno : ¬ SecOk (a, b, H, c, e, L) := fun h => by
      rw [List.length_map, List.length_map] at g3
      change (((L.length : Nat) : Int) != ((H.length : Nat) : Int)) = true at g3
      have g3 : ¬ ((L.length : Nat) : Int) = ((H.length : Nat) : Int) := by simpa using g3
      have := h.l; change L.length = H.length at this; omega
    repeat ((conv => whnf); first | refine Br.t ?_ | refine Br.f ?_ | refine ⟨rfl, ?_⟩)
    conv => whnf
    refine fin (target := []) rfl (by simp) (by simp) ?_ rfl
    rw [secB_no (fun h => hno h)]
  have g3 : L.length = H.length := by
    rw [List.length_map, List.length_map] at g3
    change (((L.length : Nat) : Int) != ((H.length : Nat) : Int)) = false at g3
    have g3 : ((L.length : Nat) : Int) = ((H.length : Nat) : Int) := by simpa using g3
    omega
  repeat ((conv => whnf); first | refine Br.t ?_ | refine Br.f ?_ | refine ⟨rfl, ?_⟩)
  conv => whnf
  refine Br.mk (fun q1 => ?_) (fun q1 => ?_)
  · have hno : ¬ SecOk (a, b, H, c, e, L) := fun h => by
      have q := of_decide_eq_true q1; change ((a : Nat) : Int) ≥ 65536 at q
      have := h.a; change a < 65536 at this; omega
    repeat ((conv => whnf); first | refine Br.t ?_ | refine Br.f ?_ | refine ⟨rfl, ?_⟩)
    conv => whnf
    refine fin (target := []) rfl (by simp) (by simp) ?_ rfl
    rw [secB_no (fun h => hno h)]
  have q1 : a < 65536 := by have q := of_decide_eq_false q1; change ¬ ((a : Nat) : Int) ≥ 65536 at q; omega
  repeat ((conv => whnf); first | refine Br.t ?_ | refine Br.f ?_ | refine ⟨rfl, ?_⟩)
  conv => whnf
  refine Br.mk (fun q2 => ?_) (fun q2 => ?_)
  · have hno : ¬ SecOk (a, b, H, c, e, L) := fun h => by
      have q := of_decide_eq_true q2; change ((b : Nat) : Int) ≥ 65536 at q
      have := h.b; change b < 65536 at this; omega
    repeat ((conv => whnf); first | refine Br.t ?_ | refine Br.f ?_ | refine ⟨rfl, ?_⟩)
    conv => whnf
    refine fin (target := []) rfl (by simp) (by simp) ?_ rfl
    rw [secB_no (fun h => hno h)]
  have q2 : b < 65536 := by have q := of_decide_eq_false q2; change ¬ ((b : Nat) : Int) ≥ 65536 at q; omega
  repeat ((conv => whnf); first | refine Br.t ?_ | refine Br.f ?_ | refine ⟨rfl, ?_⟩)
  conv => whnf
  refine Br.mk (fun q3 => ?_) (fun q3 => ?_)
  · have hno : ¬ SecOk (a, b, H, c, e, L) := fun h => by
      have q := of_decide_eq_true q3; change ((c : Nat) : Int) ≥ 512 at q
      have := h.c; change c < 512 at this; omega
    repeat ((conv => whnf); first | refine Br.t ?_ | refine Br.f ?_ | refine ⟨rfl, ?_⟩)
    conv => whnf
    refine fin (target := []) rfl (by simp) (by simp) ?_ rfl
    rw [secB_no (fun h => hno h)]
  have q3 : c < 512 := by have q := of_decide_eq_false q3; change ¬ ((c : Nat) : Int) ≥ 512 at q; omega
  repeat ((conv => whnf); first | refine Br.t ?_ | refine Br.f ?_ | refine ⟨rfl, ?_⟩)
  conv => whnf
  refine Br.mk (fun q4 => ?_) (fun q4 => ?_)
  · have hno : ¬ SecOk (a, b, H, c, e, L) := fun h => by
      have q := of_decide_eq_true q4; change ((e : Nat) : Int) ≥ 512 at q
      have := h.e; change e < 512 at this; omega
    repeat ((conv => whnf); first | refine Br.t ?_ | refine Br.f ?_ | refine ⟨rfl, ?_⟩)
    conv => whnf
    refine fin (target := []) rfl (by simp) (by simp) ?_ rfl
    rw [secB_no (fun h => hno h)]
  have q4 : e < 512 := by have q := of_decide_eq_false q4; change ¬ ((e : Nat) : Int) ≥ 512 at q; omega
  repeat ((conv => whnf); first | refine Br.t ?_ | refine Br.f ?_ | refine ⟨rfl, ?_⟩)
  conv => whnf
  refine loop_ok (α := Nat) (fun i => ⟨se1 i, [secR (a, b, H, c, e, L)]⟩) (fun i => i ≤ H.length ∧ (∀ x ∈ H.take i, decide (x < 65536) = true) ∧ ∀ x ∈ L.take i, decide (x < 512) = true) (fun i => H.length - i) 0 ⟨Nat.zero_le _, by simp, by simp⟩ (Le.slE (by simp [leS, se1]) rfl) (fun i hi => wpx_ok (own := own0) _ _ _ ?_)
  obtain ⟨hi, hi1, hi2⟩ := hi
  repeat ((conv => whnf); first | refine Br.t ?_ | refine Br.f ?_ | refine ⟨rfl, ?_⟩)
  conv => whnf
  refine Br.mk (fun g4 => ?_) (fun g4 => ?_)
  · have g4 : i < H.length := by have g := of_decide_eq_true g4; rw [List.length_map] at g; change ((i : Nat) : Int) < ((H.length : Nat) : Int) at g; omega
    have g5 : i < L.length := by omega
    obtain ⟨x, hx⟩ : ∃ x, x = H[i] := ⟨_, rfl⟩
    obtain ⟨y, hy⟩ : ∃ y, y = L[i] := ⟨_, rfl⟩
    have ex : (H.map w4).getD ((i : Int)).toNat [] = w4 x := by rw [Int.toNat_natCast, hx]; exact getD_enc g4
    have ey : (L.map w4).getD ((i : Int)).toNat [] = w4 y := by rw [Int.toNat_natCast, hy]; exact getD_enc g5
    repeat ((conv => whnf); first | refine Br.t ?_ | refine Br.f ?_ | refine ⟨rfl, ?_⟩)
    conv => whnf
    refine ⟨⟨by omega, by show (i : Int) < (((H.map w4).length : Nat) : Int); rw [List.length_map]; omega, by show ((H.map w4).getD ((i : Int)).toNat []).length = _; rw [ex]; rfl⟩, ?_⟩
    rw [show (H.map w4).getD ((i : Int)).toNat [] = w4 x from ex]
    repeat ((conv => whnf); first | refine Br.t ?_ | refine Br.f ?_ | refine ⟨rfl, ?_⟩)
    conv => whnf
    refine Br.mk (fun p1 => ?_) (fun p1 => ?_)
    · have p1 : ¬ x < 65536 := by have q := of_decide_eq_true p1; change ((x : Nat) : Int) ≥ 65536 at q; omega
      have hno : ¬ SecOk (a, b, H, c, e, L) := fun h => p1 (h.h x (hx ▸ List.getElem_mem g4))
      repeat ((conv => whnf); first | refine Br.t ?_ | refine Br.f ?_ | refine ⟨rfl, ?_⟩)
      conv => whnf
      refine fin (target := []) rfl (by simp) (by simp) ?_ rfl
      rw [secB_no (fun h => hno h)]
    have p1 : x < 65536 := by have q := of_decide_eq_false p1; change ¬ ((x : Nat) : Int) ≥ 65536 at q; omega
    repeat ((conv => whnf); first | refine Br.t ?_ | refine Br.f ?_ | refine ⟨rfl, ?_⟩)
    conv => whnf
    refine ⟨⟨by omega, by show (i : Int) < (((L.map w4).length : Nat) : Int); rw [List.length_map]; omega, by show ((L.map w4).getD ((i : Int)).toNat []).length = _; rw [ey]; rfl⟩, ?_⟩
    rw [show (L.map w4).getD ((i : Int)).toNat [] = w4 y from ey]
    repeat ((conv => whnf); first | refine Br.t ?_ | refine Br.f ?_ | refine ⟨rfl, ?_⟩)
    conv => whnf
    refine Br.mk (fun p2 => ?_) (fun p2 => ?_)
    · have p2 : ¬ y < 512 := by have q := of_decide_eq_true p2; change ((y : Nat) : Int) ≥ 512 at q; omega
      have hno : ¬ SecOk (a, b, H, c, e, L) := fun h => p2 (h.v y (hy ▸ List.getElem_mem g5))
      repeat ((conv => whnf); first | refine Br.t ?_ | refine Br.f ?_ | refine ⟨rfl, ?_⟩)
      conv => whnf
      refine fin (target := []) rfl (by simp) (by simp) ?_ rfl
      rw [secB_no (fun h => hno h)]
    have p2 : y < 512 := by have q := of_decide_eq_false p2; change ¬ ((y : Nat) : Int) ≥ 512 at q; omega
    repeat ((conv => whnf); first | refine Br.t ?_ | refine Br.f ?_ | refine ⟨rfl, ?_⟩)
    conv => whnf
    refine ⟨i + 1, ⟨by omega, take_all g4 hi1 (by rw [← hx]; simpa using p1), take_all g5 hi2 (by rw [← hy]; simpa using p2)⟩, by omega, Le.slE (by simp [leS, se1]; exact i64_id (by omega) (by omega)) rfl⟩
  · have g4 : i = H.length := by have g := of_decide_eq_false g4; rw [List.length_map] at g; change ¬ ((i : Nat) : Int) < ((H.length : Nat) : Int) at g; omega
    rw [g4, List.take_length] at hi1
    rw [g4, ← g3, List.take_length] at hi2
    have ok : SecOk (a, b, H, c, e, L) := ⟨⟨g, g2⟩, g3, q1, q2, fun x hx => of_decide_eq_true (hi1 x hx), q3, q4, fun x hx => of_decide_eq_true (hi2 x hx)⟩
    rw [secB_ok.2 ok]
    repeat ((conv => whnf); first | refine Br.t ?_ | refine Br.f ?_ | refine ⟨rfl, ?_⟩)
    conv => whnf
    refine fin (target := []) rfl (by simp) (by simp) rfl rfl
end Go.Proofs.YtdbmfnhbgacldaaDoor.Am

/- Contracts: which certificates may be, as the document says; small ones. -/
namespace Go.Proofs.YtdbmfnhbgacldaaDoor.Am
set_option autoImplicit false
set_option linter.unusedVariables false
set_option linter.unusedSimpArgs false
set_option maxRecDepth 100000
set_option pp.maxSteps 3000
set_option pp.proofs false
set_option maxHeartbeats 8000000 in
theorem check46 (c : Ct) (hc : OkT c) : CallW Tryd.prog G0 46 [ctV c] [] (fun r st' => r = chkV (chkT c) ∧ st' = []) := by
  refine call_of_bodyF 0 (Nat.le_refl _) Tryd.func46 rfl (fun a w => Tryd.call46 a w) (wpx_ok (own := own0) _ _ _ ?_)
  obtain ⟨d, ss, js⟩ := c
  obtain ⟨h1, h2, h3, h4, hs⟩ := hc
  simp only at h1 h2 h3 h4 hs
  obtain ⟨d0, d1, d2, d3, d4, d5, d6, d7, d8, d9, d10, d11, d12, d13, d14, d15, d16, d17, d18, d19, d20, d21, d22, d23, d24, d25, d26, d27, d28, d29, d30, d31, hd⟩ := list32 h1
  replace hd : d = l32 d0 d1 d2 d3 d4 d5 d6 d7 d8 d9 d10 d11 d12 d13 d14 d15 d16 d17 d18 d19 d20 d21 d22 d23 d24 d25 d26 d27 d28 d29 d30 d31 := hd
  subst hd
  unfold chkT
  simp only
  repeat ((conv => whnf); first | refine Br.t ?_ | refine Br.f ?_ | refine ⟨rfl, ?_⟩)
  conv => whnf
  refine Br.mk (fun g => ?_) (fun g => ?_)
  · have g : ss.length = 0 := by simp at g; simp [g]
    rw [if_pos g]
    repeat ((conv => whnf); first | refine Br.t ?_ | refine Br.f ?_ | refine ⟨rfl, ?_⟩)
    conv => whnf
    refine fin (target := []) rfl (by simp) (by simp) rfl rfl
  have g : ¬ ss.length = 0 := by simp at g; simpa using g
  rw [if_neg g]
  repeat ((conv => whnf); first | refine Br.t ?_ | refine Br.f ?_ | refine ⟨rfl, ?_⟩)
  conv => whnf
  refine Br.mk (fun g2 => ?_) (fun g2 => ?_)
  · have g2 : 16 < ss.length := by have := of_decide_eq_true g2; rw [List.length_map] at this; change ((ss.length : Nat) : Int) > 16 at this; omega
    rw [if_pos (Or.inl g2)]
    repeat ((conv => whnf); first | refine Br.t ?_ | refine Br.f ?_ | refine ⟨rfl, ?_⟩)
    conv => whnf
    refine fin (target := []) rfl (by simp) (by simp) rfl rfl
  have g2 : ¬ 16 < ss.length := by have := of_decide_eq_false g2; rw [List.length_map] at this; change ¬ ((ss.length : Nat) : Int) > 16 at this; omega
  repeat ((conv => whnf); first | refine Br.t ?_ | refine Br.f ?_ | refine ⟨rfl, ?_⟩)
  conv => whnf
  refine Br.mk (fun g3 => ?_) (fun g3 => ?_)
  · have g3 : 16 < js.length := by have := of_decide_eq_true g3; rw [List.length_map] at this; change ((js.length : Nat) : Int) > 16 at this; omega
    rw [if_pos (Or.inr g3)]
    repeat ((conv => whnf); first | refine Br.t ?_ | refine Br.f ?_ | refine ⟨rfl, ?_⟩)
    conv => whnf
    refine fin (target := []) rfl (by simp) (by simp) rfl rfl
  have g3 : ¬ 16 < js.length := by have := of_decide_eq_false g3; rw [List.length_map] at this; change ¬ ((js.length : Nat) : Int) > 16 at this; omega
  rw [if_neg (by omega)]
  repeat ((conv => whnf); first | refine Br.t ?_ | refine Br.f ?_ | refine ⟨rfl, ?_⟩)
  conv => whnf
  refine loop_ok (α := Nat) (fun i => ⟨rk1 i, [ctR ⟨l32 d0 d1 d2 d3 d4 d5 d6 d7 d8 d9 d10 d11 d12 d13 d14 d15 d16 d17 d18 d19 d20 d21 d22 d23 d24 d25 d26 d27 d28 d29 d30 d31, ss, js⟩]⟩) (fun i => i ≤ ss.length ∧ ∀ x ∈ ss.take i, secB x = true) (fun i => ss.length - i) 0 ⟨Nat.zero_le _, by simp⟩ (Le.slE (by simp [leS, rk1]) rfl) (fun i hi => wpx_ok (own := own0) _ _ _ ?_)
  obtain ⟨hi, hin⟩ := hi
  repeat ((conv => whnf); first | refine Br.t ?_ | refine Br.f ?_ | refine ⟨rfl, ?_⟩)
  conv => whnf
  refine Br.mk (fun g => ?_) (fun g => ?_)
  · have g : i < ss.length := by have g := of_decide_eq_true g; rw [List.length_map] at g; change ((i : Nat) : Int) < ((ss.length : Nat) : Int) at g; omega
    obtain ⟨x, hx⟩ : ∃ x, x = ss[i] := ⟨_, rfl⟩
    have ex : (ss.map encSec).getD ((i : Int)).toNat [] = encSec x := by rw [Int.toNat_natCast, hx]; exact getD_enc g
    have cs := section73 x (hs x (hx ▸ List.getElem_mem g))
    repeat ((conv => whnf); first | refine Br.t ?_ | refine Br.f ?_ | refine ⟨rfl, ?_⟩)
    conv => whnf
    refine ⟨⟨by omega, by show (i : Int) < (((ss.map encSec).length : Nat) : Int); rw [List.length_map]; omega, by show ((ss.map encSec).getD ((i : Int)).toNat []).length = _; rw [ex]; rfl⟩, ?_⟩
    rw [show (ss.map encSec).getD ((i : Int)).toNat [] = encSec x from ex]
    repeat ((conv => whnf); first | refine Br.t ?_ | refine Br.f ?_ | refine ⟨rfl, ?_⟩)
    conv => whnf
    refine CallW.mono (cs.pure _ rfl rfl) ?_
    rintro r st' ⟨rfl, rfl⟩
    repeat ((conv => whnf); first | refine Br.t ?_ | refine Br.f ?_ | refine ⟨rfl, ?_⟩)
    conv => whnf
    refine Br.mk (fun q => ?_) (fun q => ?_)
    · have q : secB x = false := by simpa using q
      rw [fstNo_at 0 i ss g hin (by rw [← hx]; exact q), Nat.zero_add]
      repeat ((conv => whnf); first | refine Br.t ?_ | refine Br.f ?_ | refine ⟨rfl, ?_⟩)
      conv => whnf
      refine fin (target := []) rfl (by simp) (by simp) rfl rfl
    · have q : secB x = true := by simpa using q
      repeat ((conv => whnf); first | refine Br.t ?_ | refine Br.f ?_ | refine ⟨rfl, ?_⟩)
      conv => whnf
      refine ⟨i + 1, ⟨by omega, take_all g hin (by rw [← hx]; exact q)⟩, by omega, Le.slE ?_ rfl⟩
      simp [leS, rk1]
      exact i64_id (by omega) (by omega)
  have g : i = ss.length := by have g := of_decide_eq_false g; rw [List.length_map] at g; change ¬ ((i : Nat) : Int) < ((ss.length : Nat) : Int) at g; omega
  subst g
  rw [List.take_length] at hin
  rw [fstNo_all 0 ss hin]
  repeat ((conv => whnf); first | refine Br.t ?_ | refine Br.f ?_ | refine ⟨rfl, ?_⟩)
  conv => whnf
  refine loop_ok (α := Nat) (fun i => ⟨rk2 i, [ctR ⟨l32 d0 d1 d2 d3 d4 d5 d6 d7 d8 d9 d10 d11 d12 d13 d14 d15 d16 d17 d18 d19 d20 d21 d22 d23 d24 d25 d26 d27 d28 d29 d30 d31, ss, js⟩]⟩) (fun i => i ≤ js.length ∧ ∀ x ∈ js.take i, jstB x = true) (fun i => js.length - i) 0 ⟨Nat.zero_le _, by simp⟩ (Le.slE (by simp [leS, rk2]) rfl) (fun i hi => wpx_ok (own := own0) _ _ _ ?_)
  obtain ⟨hi, hin⟩ := hi
  repeat ((conv => whnf); first | refine Br.t ?_ | refine Br.f ?_ | refine ⟨rfl, ?_⟩)
  conv => whnf
  refine Br.mk (fun g => ?_) (fun g => ?_)
  · have g : i < js.length := by have g := of_decide_eq_true g; rw [List.length_map] at g; change ((i : Nat) : Int) < ((js.length : Nat) : Int) at g; omega
    obtain ⟨x, hx⟩ : ∃ x, x = js[i] := ⟨_, rfl⟩
    have ex : (js.map encJ).getD ((i : Int)).toNat [] = encJ x := by rw [Int.toNat_natCast, hx]; exact getD_enc g
    have cs := right74 x
    repeat ((conv => whnf); first | refine Br.t ?_ | refine Br.f ?_ | refine ⟨rfl, ?_⟩)
    conv => whnf
    refine ⟨⟨by omega, by show (i : Int) < (((js.map encJ).length : Nat) : Int); rw [List.length_map]; omega, by show ((js.map encJ).getD ((i : Int)).toNat []).length = _; rw [ex]; rfl⟩, ?_⟩
    rw [show (js.map encJ).getD ((i : Int)).toNat [] = encJ x from ex]
    repeat ((conv => whnf); first | refine Br.t ?_ | refine Br.f ?_ | refine ⟨rfl, ?_⟩)
    conv => whnf
    refine CallW.mono (cs.pure _ rfl rfl) ?_
    rintro r st' ⟨rfl, rfl⟩
    repeat ((conv => whnf); first | refine Br.t ?_ | refine Br.f ?_ | refine ⟨rfl, ?_⟩)
    conv => whnf
    refine Br.mk (fun q => ?_) (fun q => ?_)
    · have q : jstB x = false := by simpa using q
      rw [fstNo_at ss.length i js g hin (by rw [← hx]; exact q)]
      have e : IntKind.i64.wrap ((((ss.map encSec).length : Nat) : Int) + (i : Int)) = ((ss.length + i : Nat) : Int) := by rw [List.length_map, i64_id (by omega) (by omega)]; omega
      repeat ((conv => whnf); first | refine Br.t ?_ | refine Br.f ?_ | refine ⟨rfl, ?_⟩)
      conv => whnf
      refine fin (target := []) rfl (by simp) (by simp) ?_ rfl
      show V.tup [.i (.int .i64 (IntKind.i64.wrap ((((ss.map encSec).length : Nat) : Int) + (i : Int)))), _] = _
      rw [e]; rfl
    · have q : jstB x = true := by simpa using q
      repeat ((conv => whnf); first | refine Br.t ?_ | refine Br.f ?_ | refine ⟨rfl, ?_⟩)
      conv => whnf
      refine ⟨i + 1, ⟨by omega, take_all g hin (by rw [← hx]; exact q)⟩, by omega, Le.slE ?_ rfl⟩
      simp [leS, rk2]
      exact i64_id (by omega) (by omega)
  have g : i = js.length := by have g := of_decide_eq_false g; rw [List.length_map] at g; change ¬ ((i : Nat) : Int) < ((js.length : Nat) : Int) at g; omega
  subst g
  rw [List.take_length] at hin
  rw [fstNo_all ss.length js hin]
  repeat ((conv => whnf); first | refine Br.t ?_ | refine Br.f ?_ | refine ⟨rfl, ?_⟩)
  conv => whnf
  refine fin (target := []) rfl (by simp) (by simp) rfl rfl
/-- a small certificate -/
def fewB (c : Ct) : Bool := decide (c.ss.length ≤ 40) && decide (c.js.length ≤ 40) && c.ss.all fun s => decide (s.2.2.1.length ≤ 100) && decide (s.2.2.2.2.2.length ≤ 100)
set_option maxHeartbeats 8000000 in
theorem few44 (c : Ct) (h1 : c.d.length = 32) (h3 : c.ss.length ≤ 9223372036854775807) (h4 : c.js.length ≤ 9223372036854775807) : CallW Tryd.prog G0 44 [ctV c] [] (fun r st' => r = .i (.bool (fewB c)) ∧ st' = []) := by
  refine call_of_bodyF 0 (Nat.le_refl _) Tryd.func44 rfl (fun a w => Tryd.call44 a w) (wpx_ok (own := own0) _ _ _ ?_)
  obtain ⟨d, ss, js⟩ := c
  simp only at h1 h3 h4
  obtain ⟨d0, d1, d2, d3, d4, d5, d6, d7, d8, d9, d10, d11, d12, d13, d14, d15, d16, d17, d18, d19, d20, d21, d22, d23, d24, d25, d26, d27, d28, d29, d30, d31, hd⟩ := list32 h1
  replace hd : d = l32 d0 d1 d2 d3 d4 d5 d6 d7 d8 d9 d10 d11 d12 d13 d14 d15 d16 d17 d18 d19 d20 d21 d22 d23 d24 d25 d26 d27 d28 d29 d30 d31 := hd
  subst hd
  repeat ((conv => whnf); first | refine Br.t ?_ | refine Br.f ?_ | refine ⟨rfl, ?_⟩)
  conv => whnf
  refine Br.mk (fun g2 => ?_) (fun g2 => ?_)
  · have g2 : 40 < ss.length := by have := of_decide_eq_true g2; rw [List.length_map] at this; change ((ss.length : Nat) : Int) > 40 at this; omega
    have hno : ¬ ((ss.length ≤ 40 ∧ js.length ≤ 40) ∧ ∀ s ∈ ss, s.2.2.1.length ≤ 100 ∧ s.2.2.2.2.2.length ≤ 100) := fun h => by omega
    repeat ((conv => whnf); first | refine Br.t ?_ | refine Br.f ?_ | refine ⟨rfl, ?_⟩)
    conv => whnf
    refine fin (target := []) rfl (by simp) (by simp) ?_ rfl
    congr 2
    cases e : fewB ⟨l32 d0 d1 d2 d3 d4 d5 d6 d7 d8 d9 d10 d11 d12 d13 d14 d15 d16 d17 d18 d19 d20 d21 d22 d23 d24 d25 d26 d27 d28 d29 d30 d31, ss, js⟩ with
    | false => rfl
    | true =>
      unfold fewB at e
      simp only [Bool.and_eq_true, decide_eq_true_eq, List.all_eq_true] at e
      exact absurd e hno
  have g2 : ss.length ≤ 40 := by have := of_decide_eq_false g2; rw [List.length_map] at this; change ¬ ((ss.length : Nat) : Int) > 40 at this; omega
  repeat ((conv => whnf); first | refine Br.t ?_ | refine Br.f ?_ | refine ⟨rfl, ?_⟩)
  conv => whnf
  refine Br.mk (fun g3 => ?_) (fun g3 => ?_)
  · have g3 : 40 < js.length := by have := of_decide_eq_true g3; rw [List.length_map] at this; change ((js.length : Nat) : Int) > 40 at this; omega
    have hno : ¬ ((ss.length ≤ 40 ∧ js.length ≤ 40) ∧ ∀ s ∈ ss, s.2.2.1.length ≤ 100 ∧ s.2.2.2.2.2.length ≤ 100) := fun h => by omega
    repeat ((conv => whnf); first | refine Br.t ?_ | refine Br.f ?_ | refine ⟨rfl, ?_⟩)
    conv => whnf
    refine fin (target := []) rfl (by simp) (by simp) ?_ rfl
    congr 2
    cases e : fewB ⟨l32 d0 d1 d2 d3 d4 d5 d6 d7 d8 d9 d10 d11 d12 d13 d14 d15 d16 d17 d18 d19 d20 d21 d22 d23 d24 d25 d26 d27 d28 d29 d30 d31, ss, js⟩ with
    | false => rfl
    | true =>
      unfold fewB at e
      simp only [Bool.and_eq_true, decide_eq_true_eq, List.all_eq_true] at e
      exact absurd e hno
  have g3 : js.length ≤ 40 := by have := of_decide_eq_false g3; rw [List.length_map] at this; change ¬ ((js.length : Nat) : Int) > 40 at this; omega
  repeat ((conv => whnf); first | refine Br.t ?_ | refine Br.f ?_ | refine ⟨rfl, ?_⟩)
  conv => whnf
  refine loop_ok (α := Nat) (fun i => ⟨fe1 i, [ctR ⟨l32 d0 d1 d2 d3 d4 d5 d6 d7 d8 d9 d10 d11 d12 d13 d14 d15 d16 d17 d18 d19 d20 d21 d22 d23 d24 d25 d26 d27 d28 d29 d30 d31, ss, js⟩]⟩) (fun i => i ≤ ss.length ∧ ∀ x ∈ ss.take i, (decide (x.2.2.1.length ≤ 100) && decide (x.2.2.2.2.2.length ≤ 100)) = true) (fun i => ss.length - i) 0 ⟨Nat.zero_le _, by simp⟩ (Le.slE (by simp [leS, fe1]) rfl) (fun i hi => wpx_ok (own := own0) _ _ _ ?_)
  obtain ⟨hi, hin⟩ := hi
  repeat ((conv => whnf); first | refine Br.t ?_ | refine Br.f ?_ | refine ⟨rfl, ?_⟩)
  conv => whnf
  refine Br.mk (fun g => ?_) (fun g => ?_)
  · have g : i < ss.length := by have g := of_decide_eq_true g; rw [List.length_map] at g; change ((i : Nat) : Int) < ((ss.length : Nat) : Int) at g; omega
    obtain ⟨x, hx⟩ : ∃ x, x = ss[i] := ⟨_, rfl⟩
    have hxm : x ∈ ss := hx ▸ List.getElem_mem g
    have ex : (ss.map encSec).getD ((i : Int)).toNat [] = encSec x := by rw [Int.toNat_natCast, hx]; exact getD_enc g
    repeat ((conv => whnf); first | refine Br.t ?_ | refine Br.f ?_ | refine ⟨rfl, ?_⟩)
    conv => whnf
    refine ⟨⟨by omega, by show (i : Int) < (((ss.map encSec).length : Nat) : Int); rw [List.length_map]; omega, by show ((ss.map encSec).getD ((i : Int)).toNat []).length = _; rw [ex]; rfl⟩, ?_⟩
    rw [show (ss.map encSec).getD ((i : Int)).toNat [] = encSec x from ex]
    repeat ((conv => whnf); first | refine Br.t ?_ | refine Br.f ?_ | refine ⟨rfl, ?_⟩)
    conv => whnf
    refine Br.mk (fun q => ?_) (fun q => ?_)
    · have q : ¬ x.2.2.1.length ≤ 100 := by have q := of_decide_eq_true q; rw [List.length_map] at q; change ((x.2.2.1.length : Nat) : Int) > 100 at q; omega
      have hno : ¬ ((ss.length ≤ 40 ∧ js.length ≤ 40) ∧ ∀ s ∈ ss, s.2.2.1.length ≤ 100 ∧ s.2.2.2.2.2.length ≤ 100) := fun h => q (h.2 x hxm).1
      repeat ((conv => whnf); first | refine Br.t ?_ | refine Br.f ?_ | refine ⟨rfl, ?_⟩)
      conv => whnf
      refine fin (target := []) rfl (by simp) (by simp) ?_ rfl
      congr 2
      cases e : fewB ⟨l32 d0 d1 d2 d3 d4 d5 d6 d7 d8 d9 d10 d11 d12 d13 d14 d15 d16 d17 d18 d19 d20 d21 d22 d23 d24 d25 d26 d27 d28 d29 d30 d31, ss, js⟩ with
      | false => rfl
      | true =>
        unfold fewB at e
        simp only [Bool.and_eq_true, decide_eq_true_eq, List.all_eq_true] at e
        exact absurd e hno
    have q : x.2.2.1.length ≤ 100 := by have q := of_decide_eq_false q; rw [List.length_map] at q; change ¬ ((x.2.2.1.length : Nat) : Int) > 100 at q; omega
    repeat ((conv => whnf); first | refine Br.t ?_ | refine Br.f ?_ | refine ⟨rfl, ?_⟩)
    conv => whnf
    refine ⟨⟨by omega, by show (i : Int) < (((ss.map encSec).length : Nat) : Int); rw [List.length_map]; omega, by show ((ss.map encSec).getD ((i : Int)).toNat []).length = _; rw [ex]; rfl⟩, ?_⟩
    rw [show (ss.map encSec).getD ((i : Int)).toNat [] = encSec x from ex]
    repeat ((conv => whnf); first | refine Br.t ?_ | refine Br.f ?_ | refine ⟨rfl, ?_⟩)
    conv => whnf
    refine Br.mk (fun q2 => ?_) (fun q2 => ?_)
    · have q2 : ¬ x.2.2.2.2.2.length ≤ 100 := by have q := of_decide_eq_true q2; rw [List.length_map] at q; change ((x.2.2.2.2.2.length : Nat) : Int) > 100 at q; omega
      have hno : ¬ ((ss.length ≤ 40 ∧ js.length ≤ 40) ∧ ∀ s ∈ ss, s.2.2.1.length ≤ 100 ∧ s.2.2.2.2.2.length ≤ 100) := fun h => q2 (h.2 x hxm).2
      repeat ((conv => whnf); first | refine Br.t ?_ | refine Br.f ?_ | refine ⟨rfl, ?_⟩)
      conv => whnf
      refine fin (target := []) rfl (by simp) (by simp) ?_ rfl
      congr 2
      cases e : fewB ⟨l32 d0 d1 d2 d3 d4 d5 d6 d7 d8 d9 d10 d11 d12 d13 d14 d15 d16 d17 d18 d19 d20 d21 d22 d23 d24 d25 d26 d27 d28 d29 d30 d31, ss, js⟩ with
      | false => rfl
      | true =>
        unfold fewB at e
        simp only [Bool.and_eq_true, decide_eq_true_eq, List.all_eq_true] at e
        exact absurd e hno
    have q2 : x.2.2.2.2.2.length ≤ 100 := by have q := of_decide_eq_false q2; rw [List.length_map] at q; change ¬ ((x.2.2.2.2.2.length : Nat) : Int) > 100 at q; omega
    repeat ((conv => whnf); first | refine Br.t ?_ | refine Br.f ?_ | refine ⟨rfl, ?_⟩)
    conv => whnf
    refine ⟨i + 1, ⟨by omega, take_all g hin (by rw [← hx]; simp [q, q2])⟩, by omega, Le.slE ?_ rfl⟩
    simp [leS, fe1]
    exact i64_id (by omega) (by omega)
  have g : i = ss.length := by have g := of_decide_eq_false g; rw [List.length_map] at g; change ¬ ((i : Nat) : Int) < ((ss.length : Nat) : Int) at g; omega
  subst g
  rw [List.take_length] at hin
  have e : fewB ⟨l32 d0 d1 d2 d3 d4 d5 d6 d7 d8 d9 d10 d11 d12 d13 d14 d15 d16 d17 d18 d19 d20 d21 d22 d23 d24 d25 d26 d27 d28 d29 d30 d31, ss, js⟩ = true := by
    unfold fewB
    simp only [Bool.and_eq_true, decide_eq_true_eq, List.all_eq_true]
    exact ⟨⟨g2, g3⟩, fun x hx => by simpa using hin x hx⟩
  rw [e]
  repeat ((conv => whnf); first | refine Br.t ?_ | refine Br.f ?_ | refine ⟨rfl, ?_⟩)
  conv => whnf
  refine fin (target := []) rfl (by simp) (by simp) rfl rfl
end Go.Proofs.YtdbmfnhbgacldaaDoor.Am

/- Contracts: a section's bytes, the justifications' bytes. -/
namespace Go.Proofs.YtdbmfnhbgacldaaDoor.Am
set_option autoImplicit false
set_option linter.unusedVariables false
set_option linter.unusedSimpArgs false
set_option maxRecDepth 100000
set_option pp.maxSteps 3000
set_option pp.proofs false
theorem CallW.gmono {P : Program} {G G' : Gl} {f : FuncId} {args : List V} {st : List Ob} {K : V → List Ob → Prop} (hm : ∀ g cs, G g = some cs → G' g = some cs) (h : CallW P G f args st K) : CallW P G' f args st K :=
  ⟨h.enter, fun D μ w args' hg ha hs => h.calls D μ w args' (fun g cs h => hg g cs (hm g cs h)) ha hs⟩
theorem G1k (ks : List Nat) : ∀ g cs, G1 g = some cs → Gk (some tz) ks g = some cs := by
  intro g cs h
  unfold G1 at h
  unfold Gk
  split at h
  · rename_i h0; rw [if_pos h0]; exact h
  · cases h
/-- a writer's rows behind another row -/
def wrO (o : Ob) (k : Nat) (zs : List (List I)) : List Ob := [o, .row 0 1 false [[.ref 2 (k + 1) 0 zs.length]], .row (k + 1) 1 false (lift zs)]
theorem upO {G : Gl} {f : FuncId} {args : List V} {v : V} {k k' : Nat} {zs zs' : List (List I)} (o : Ob) (post : List Ob) (h : CallW Tryd.prog G f args (wr k zs) (fun r st' => r = v ∧ st' = wr k' zs')) (ha : V.cl.clAll 2 args = true) (hv : V.cl 0 v = true) :
    CallW Tryd.prog G f (V.ren.renAll (fm [1, 2] (wrO o k zs ++ post).length) args) (wrO o k zs ++ post) (fun r st' => r = v ∧ st' = wrO o k' zs' ++ post) := by
  refine (CallW.rise (bargs := V.ren.renAll (fm [1, 2] (wrO o k zs ++ post).length) args) (big := wrO o k zs ++ post) [1, 2] [] h rfl (by decide) (by simp [wrO]) ?_ (wr_cl _ _) (by simp) (renAll_len _ _) (args_ren ha) (.inl rfl)).mono ?_
  · simp only [wr, List.map_cons, List.map_nil, ren_lift]
    rfl
  · rintro r st' ⟨r0, s0, ⟨rfl, rfl⟩, rfl, rfl⟩
    refine ⟨ren_cl0 _ _ hv, ?_⟩
    simp only [wr, wrO, List.map_cons, List.map_nil, ren_lift]
    show putAll _ [1, 2] [Ob.row 0 1 false [[V.ref 2 (k' + 1) 0 zs'.length]], Ob.row (k' + 1) 1 false (lift zs')] = _
    simp [putAll]
theorem flat37 : ∀ L : List Nat, (L.flatMap setN).length ≤ 37 * L.length
  | [] => Nat.le_refl _
  | x :: L => by
    have h1 := flat37 L
    have h2 : (setN x).length ≤ 37 := setN_len
    simp only [List.flatMap_cons, List.length_append, List.length_cons]; omega
def scL : List V := [.undef, .ptr 0 0 0 0, .undef, .ptr 1 0 0 0] ++ List.replicate 48 .undef
def sc0 (L : List Nat) (i : Nat) : List V := [.undef, .ptr 0 0 0 0, .undef, .ptr 1 0 0 0, .undef, .undef, .undef, .undef, .undef, .undef, .undef, .undef, .undef, .undef, .undef, .undef, .undef, .undef, .i (.sl (L.map w4)), .i (.int .i64 L.length), .i (.int .i64 i)] ++ List.replicate 31 .undef
set_option maxHeartbeats 8000000 in
theorem sc_loop0 (s : Sec) (L : List Nat) (hm : ∀ m ∈ L, m < 4294967296) (hl : L.length ≤ 64) (zs : List Nat) (hz : zs.length ≤ 100000) :
    W Tryd.prog G1 0 (.loop (lp Tryd.f71 0)) (fun e s' => e = .exit 0 ∧ s' = ⟨scL, wrO (secR s) 0 ((zs ++ L.flatMap setN).map by8)⟩) ⟨sc0 L 0, wrO (secR s) 0 (zs.map by8)⟩ := by
  refine W.weak (loop_ok (α := Nat × List Nat) (fun z => ⟨sc0 L z.1, wrO (secR s) 0 (z.2.map by8)⟩) (fun z => z.1 ≤ L.length ∧ z.2.length ≤ 100000 + 37 * z.1 ∧ z.2 ++ (L.drop z.1).flatMap setN = zs ++ L.flatMap setN) (fun z => L.length - z.1) (0, zs) ⟨Nat.zero_le _, by simp only; omega, rfl⟩ (Le.refl _ _) (fun z hz => wpx_ok (own := own0) _ _ _ ?_))
  obtain ⟨i, X⟩ := z
  obtain ⟨j1, j2, j3⟩ := hz
  simp only at j1 j2 j3
  dsimp only
  generalize zs ++ L.flatMap setN = LE at j3 ⊢
  repeat ((conv => whnf); first | refine Br.t ?_ | refine Br.f ?_ | refine ⟨rfl, ?_⟩)
  conv => whnf
  refine Br.mk (fun g => ?_) (fun g => ?_)
  · have g : i < L.length := by simp at g; omega
    have edr : L.drop i = L[i] :: L.drop (i + 1) := List.drop_eq_getElem_cons g
    have ex : (L.map w4).getD ((i : Int)).toNat [] = w4 (L[i]) := by rw [Int.toNat_natCast]; exact getD_enc g
    have hx := hm _ (List.getElem_mem g)
    rw [edr, List.flatMap_cons] at j3
    generalize L[i] = x at ex hx j3
    have hsl : (setN x).length ≤ 37 := setN_len
    have cs := upO (secR s) [] (set20 0 (X.map by8) x hx (by rw [List.length_map]; omega)) rfl rfl
    rw [← List.map_append] at cs
    have j3' : (X ++ setN x) ++ (L.drop (i + 1)).flatMap setN = LE := by rw [List.append_assoc]; exact j3
    obtain ⟨K, hK⟩ : ∃ K, K = (ids x).length := ⟨_, rfl⟩
    rw [← hK] at cs
    repeat ((conv => whnf); first | refine Br.t ?_ | refine Br.f ?_ | refine ⟨rfl, ?_⟩)
    conv => whnf
    refine ⟨⟨by omega, by simp; omega, by rw [ex]; rfl⟩, ?_⟩
    rw [ex]
    repeat ((conv => whnf); first | refine Br.t ?_ | refine Br.f ?_ | refine ⟨rfl, ?_⟩)
    conv => whnf
    refine CallW.mono cs ?_
    rintro r st' ⟨rfl, rfl⟩
    repeat ((conv => whnf); first | refine Br.t ?_ | refine Br.f ?_ | refine ⟨rfl, ?_⟩)
    conv => whnf
    refine ⟨(i + 1, X ++ setN x), ⟨by simp only; omega, by simp only [List.length_append]; omega, j3'⟩, by simp only; omega, ?_⟩
    refine Le.down (fun id => if id = 2 then K + 1 else 0) (fun id hid => by cases hid) ?_ ?_
    · simp [leS, sc0, V.up]
      exact i64_id (by omega) (by omega)
    · simp [upSt, Ob.up, wrO, secR, encSec, V.up.upAll, V.up, map_up_lift]
      omega
  · have g : i = L.length := by simp at g; omega
    subst g
    rw [List.drop_length, List.flatMap_nil, List.append_nil] at j3
    rw [← j3]
    repeat ((conv => whnf); first | refine Br.t ?_ | refine Br.f ?_ | refine ⟨rfl, ?_⟩)
    conv => whnf
    exact ⟨_, Le.slE (sl' := scL) (by simp [leS, sc0, scL]) rfl, rfl, rfl⟩
def sc1 (L : List Nat) (i : Nat) : List V := [.undef, .ptr 0 0 0 0, .undef, .ptr 1 0 0 0, .undef, .undef, .undef, .undef, .undef, .undef, .undef, .undef, .undef, .undef, .undef, .undef, .undef, .undef, .undef, .undef, .undef, .undef, .undef, .undef, .undef, .undef, .undef, .undef, .undef, .undef, .undef, .undef, .i (.sl (L.map w4)), .i (.int .i64 L.length), .i (.int .i64 i)] ++ List.replicate 17 .undef
set_option maxHeartbeats 8000000 in
theorem sc_loop1 (s : Sec) (L : List Nat) (hm : ∀ m ∈ L, m < 4294967296) (hl : L.length ≤ 64) (zs : List Nat) (hz : zs.length ≤ 100000) :
    W Tryd.prog G1 0 (.loop (lp Tryd.f71 1)) (fun e s' => e = .exit 2 ∧ s' = ⟨scL, wrO (secR s) 0 ((zs ++ L.flatMap setN).map by8)⟩) ⟨sc1 L 0, wrO (secR s) 0 (zs.map by8)⟩ := by
  refine W.weak (loop_ok (α := Nat × List Nat) (fun z => ⟨sc1 L z.1, wrO (secR s) 0 (z.2.map by8)⟩) (fun z => z.1 ≤ L.length ∧ z.2.length ≤ 100000 + 37 * z.1 ∧ z.2 ++ (L.drop z.1).flatMap setN = zs ++ L.flatMap setN) (fun z => L.length - z.1) (0, zs) ⟨Nat.zero_le _, by simp only; omega, rfl⟩ (Le.refl _ _) (fun z hz => wpx_ok (own := own0) _ _ _ ?_))
  obtain ⟨i, X⟩ := z
  obtain ⟨j1, j2, j3⟩ := hz
  simp only at j1 j2 j3
  dsimp only
  generalize zs ++ L.flatMap setN = LE at j3 ⊢
  repeat ((conv => whnf); first | refine Br.t ?_ | refine Br.f ?_ | refine ⟨rfl, ?_⟩)
  conv => whnf
  refine Br.mk (fun g => ?_) (fun g => ?_)
  · have g : i < L.length := by simp at g; omega
    have edr : L.drop i = L[i] :: L.drop (i + 1) := List.drop_eq_getElem_cons g
    have ex : (L.map w4).getD ((i : Int)).toNat [] = w4 (L[i]) := by rw [Int.toNat_natCast]; exact getD_enc g
    have hx := hm _ (List.getElem_mem g)
    rw [edr, List.flatMap_cons] at j3
    generalize L[i] = x at ex hx j3
    have hsl : (setN x).length ≤ 37 := setN_len
    have cs := upO (secR s) [] (set20 0 (X.map by8) x hx (by rw [List.length_map]; omega)) rfl rfl
    rw [← List.map_append] at cs
    have j3' : (X ++ setN x) ++ (L.drop (i + 1)).flatMap setN = LE := by rw [List.append_assoc]; exact j3
    obtain ⟨K, hK⟩ : ∃ K, K = (ids x).length := ⟨_, rfl⟩
    rw [← hK] at cs
    repeat ((conv => whnf); first | refine Br.t ?_ | refine Br.f ?_ | refine ⟨rfl, ?_⟩)
    conv => whnf
    refine ⟨⟨by omega, by simp; omega, by rw [ex]; rfl⟩, ?_⟩
    rw [ex]
    repeat ((conv => whnf); first | refine Br.t ?_ | refine Br.f ?_ | refine ⟨rfl, ?_⟩)
    conv => whnf
    refine CallW.mono cs ?_
    rintro r st' ⟨rfl, rfl⟩
    repeat ((conv => whnf); first | refine Br.t ?_ | refine Br.f ?_ | refine ⟨rfl, ?_⟩)
    conv => whnf
    refine ⟨(i + 1, X ++ setN x), ⟨by simp only; omega, by simp only [List.length_append]; omega, j3'⟩, by simp only; omega, ?_⟩
    refine Le.down (fun id => if id = 2 then K + 1 else 0) (fun id hid => by cases hid) ?_ ?_
    · simp [leS, sc1, V.up]
      exact i64_id (by omega) (by omega)
    · simp [upSt, Ob.up, wrO, secR, encSec, V.up.upAll, V.up, map_up_lift]
      omega
  · have g : i = L.length := by simp at g; omega
    subst g
    rw [List.drop_length, List.flatMap_nil, List.append_nil] at j3
    rw [← j3]
    repeat ((conv => whnf); first | refine Br.t ?_ | refine Br.f ?_ | refine ⟨rfl, ?_⟩)
    conv => whnf
    exact ⟨_, Le.slE (sl' := scL) (by simp [leS, sc1, scL]) rfl, rfl, rfl⟩
def sc2 (L : List Nat) (i : Nat) : List V := [.undef, .ptr 0 0 0 0, .undef, .ptr 1 0 0 0, .undef, .undef, .undef, .undef, .undef, .undef, .undef, .undef, .undef, .undef, .undef, .undef, .undef, .undef, .undef, .undef, .undef, .undef, .undef, .undef, .undef, .undef, .undef, .undef, .undef, .undef, .undef, .undef, .undef, .undef, .undef, .undef, .undef, .undef, .undef, .undef, .undef, .undef, .i (.sl (L.map w4)), .i (.int .i64 L.length), .i (.int .i64 i)] ++ List.replicate 7 .undef
set_option maxHeartbeats 8000000 in
theorem sc_loop2 (s : Sec) (L : List Nat) (hm : ∀ m ∈ L, m < 4294967296) (hl : L.length ≤ 64) (zs : List Nat) (hz : zs.length ≤ 100000) :
    W Tryd.prog G1 0 (.loop (lp Tryd.f71 2)) (fun e s' => e = .exit 4 ∧ s' = ⟨scL, wrO (secR s) 0 ((zs ++ L.flatMap setN).map by8)⟩) ⟨sc2 L 0, wrO (secR s) 0 (zs.map by8)⟩ := by
  refine W.weak (loop_ok (α := Nat × List Nat) (fun z => ⟨sc2 L z.1, wrO (secR s) 0 (z.2.map by8)⟩) (fun z => z.1 ≤ L.length ∧ z.2.length ≤ 100000 + 37 * z.1 ∧ z.2 ++ (L.drop z.1).flatMap setN = zs ++ L.flatMap setN) (fun z => L.length - z.1) (0, zs) ⟨Nat.zero_le _, by simp only; omega, rfl⟩ (Le.refl _ _) (fun z hz => wpx_ok (own := own0) _ _ _ ?_))
  obtain ⟨i, X⟩ := z
  obtain ⟨j1, j2, j3⟩ := hz
  simp only at j1 j2 j3
  dsimp only
  generalize zs ++ L.flatMap setN = LE at j3 ⊢
  repeat ((conv => whnf); first | refine Br.t ?_ | refine Br.f ?_ | refine ⟨rfl, ?_⟩)
  conv => whnf
  refine Br.mk (fun g => ?_) (fun g => ?_)
  · have g : i < L.length := by simp at g; omega
    have edr : L.drop i = L[i] :: L.drop (i + 1) := List.drop_eq_getElem_cons g
    have ex : (L.map w4).getD ((i : Int)).toNat [] = w4 (L[i]) := by rw [Int.toNat_natCast]; exact getD_enc g
    have hx := hm _ (List.getElem_mem g)
    rw [edr, List.flatMap_cons] at j3
    generalize L[i] = x at ex hx j3
    have hsl : (setN x).length ≤ 37 := setN_len
    have cs := upO (secR s) [] (set20 0 (X.map by8) x hx (by rw [List.length_map]; omega)) rfl rfl
    rw [← List.map_append] at cs
    have j3' : (X ++ setN x) ++ (L.drop (i + 1)).flatMap setN = LE := by rw [List.append_assoc]; exact j3
    obtain ⟨K, hK⟩ : ∃ K, K = (ids x).length := ⟨_, rfl⟩
    rw [← hK] at cs
    repeat ((conv => whnf); first | refine Br.t ?_ | refine Br.f ?_ | refine ⟨rfl, ?_⟩)
    conv => whnf
    refine ⟨⟨by omega, by simp; omega, by rw [ex]; rfl⟩, ?_⟩
    rw [ex]
    repeat ((conv => whnf); first | refine Br.t ?_ | refine Br.f ?_ | refine ⟨rfl, ?_⟩)
    conv => whnf
    refine CallW.mono cs ?_
    rintro r st' ⟨rfl, rfl⟩
    repeat ((conv => whnf); first | refine Br.t ?_ | refine Br.f ?_ | refine ⟨rfl, ?_⟩)
    conv => whnf
    refine ⟨(i + 1, X ++ setN x), ⟨by simp only; omega, by simp only [List.length_append]; omega, j3'⟩, by simp only; omega, ?_⟩
    refine Le.down (fun id => if id = 2 then K + 1 else 0) (fun id hid => by cases hid) ?_ ?_
    · simp [leS, sc2, V.up]
      exact i64_id (by omega) (by omega)
    · simp [upSt, Ob.up, wrO, secR, encSec, V.up.upAll, V.up, map_up_lift]
      omega
  · have g : i = L.length := by simp at g; omega
    subst g
    rw [List.drop_length, List.flatMap_nil, List.append_nil] at j3
    rw [← j3]
    repeat ((conv => whnf); first | refine Br.t ?_ | refine Br.f ?_ | refine ⟨rfl, ?_⟩)
    conv => whnf
    exact ⟨_, Le.slE (sl' := scL) (by simp [leS, sc2, scL]) rfl, rfl, rfl⟩
end Go.Proofs.YtdbmfnhbgacldaaDoor.Am

/- Contracts: a section's bytes, the justifications' bytes. -/
namespace Go.Proofs.YtdbmfnhbgacldaaDoor.Am
set_option autoImplicit false
set_option linter.unusedVariables false
set_option linter.unusedSimpArgs false
set_option maxRecDepth 100000
set_option pp.maxSteps 3000
set_option pp.proofs false
theorem secO {s : Sec} (h : SecOk s) : okS s := ⟨by have := h.a; omega, by have := h.b; omega, ⟨by have := h.n; omega, fun m hm => by have := h.h m hm; omega⟩, by have := h.c; omega, by have := h.e; omega, ⟨by have := h.n; have := h.l; omega, fun m hm => by have := h.v m hm; omega⟩⟩
set_option maxHeartbeats 8000000 in
theorem section71 (s : Sec) (hs : SecOk s) : CallW Tryd.prog G1 71 [secV s] [] (fun r st' => r = .i (.sl ((secN s).map by8)) ∧ st' = []) := by
  refine call_of_bodyF 0 (Nat.le_refl _) Tryd.func71 rfl (fun a w => Tryd.call71 a w) (wpx_ok (own := own0) _ _ _ ?_)
  have hok := secO hs
  obtain ⟨a, b, H, c, e, L⟩ := s
  obtain ⟨h1, h2, ⟨h3, h4⟩, h5, h6, h7, h8⟩ := hok
  simp only at h1 h2 h3 h4 h5 h6 h7 h8
  have hH : H.length ≤ 64 := hs.n.2
  have hL : L.length ≤ 64 := by have := hs.l; have : L.length = H.length := this; omega
  have l0 := sc_loop0 (a, b, H, c, e, L) [a, b, c, e] (by simp [h1, h2, h5, h6]) (by simp) [] (by simp)
  rw [List.nil_append] at l0
  obtain ⟨X0, hX0⟩ : ∃ X, X = [a, b, c, e].flatMap setN := ⟨_, rfl⟩
  have x0 : X0.length ≤ 37 * 4 := by rw [hX0]; exact flat37 _
  rw [← hX0] at l0
  have cn := upO (secR (a, b, H, c, e, L)) [] (num 0 (X0.map by8) H.length (by omega) (by rw [List.length_map]; omega)) rfl rfl
  rw [← List.map_append] at cn
  have pl := putN_len 4 H.length (by omega)
  have l1 := sc_loop1 (a, b, H, c, e, L) H h4 hH (X0 ++ putN H.length) (by rw [List.length_append]; omega)
  have f1 := flat37 H
  have f2 := flat37 L
  have l2 := sc_loop2 (a, b, H, c, e, L) L h8 hL (X0 ++ putN H.length ++ H.flatMap setN) (by rw [List.length_append, List.length_append]; omega)
  have hX : X0 ++ putN H.length ++ H.flatMap setN ++ L.flatMap setN = secN (a, b, H, c, e, L) := by
    rw [hX0, secN]; simp only [List.flatMap_cons, List.flatMap_nil, List.append_nil, List.append_assoc]
  rw [hX] at l2
  have hXl : (secN (a, b, H, c, e, L)).length ≤ 10000 := by rw [← hX]; simp only [List.length_append]; omega
  generalize secN (a, b, H, c, e, L) = X3 at l2 hXl ⊢
  generalize X0 ++ putN H.length ++ H.flatMap setN = X2 at l1 l2
  generalize X0 ++ putN H.length = X1 at cn l1
  have cb := upO (secR (a, b, H, c, e, L)) [] (bytes 0 (X3.map by8) (bytes_one _) (by rw [List.length_map]; omega)) rfl rfl
  repeat ((conv => whnf); first | refine Br.t ?_ | refine Br.f ?_ | refine ⟨rfl, ?_⟩)
  conv => whnf
  refine W.le (s' := ⟨sc0 [a, b, c, e] 0, wrO (secR (a, b, H, c, e, L)) 0 (([] : List Nat).map by8)⟩) ((Le.nilCell 1 0 0 1 rfl rfl rfl).trans (Le.slE (by simp [leS, sc0, w4, u32I]) rfl)) (W.mono l0 ?_)
  rintro e s ⟨rfl, rfl⟩
  repeat ((conv => whnf); first | refine Br.t ?_ | refine Br.f ?_ | refine ⟨rfl, ?_⟩)
  conv => whnf
  rw [show (((H.map w4).length : Nat) : Int) = ((H.length : Nat) : Int) by rw [List.length_map]]
  refine CallW.mono cn.glob ?_
  rintro r st' ⟨rfl, rfl⟩
  repeat ((conv => whnf); first | refine Br.t ?_ | refine Br.f ?_ | refine ⟨rfl, ?_⟩)
  conv => whnf
  refine W.le (s' := ⟨sc1 H 0, wrO (secR (a, b, H, c, e, L)) 0 (X1.map by8)⟩) (Le.down (fun id => if id = 2 then 1 else 0) (fun id hid => by cases hid) ?_ ?_) (W.mono l1 ?_)
  · simp [leS, sc1, V.up]
  · simp [upSt, Ob.up, wrO, secR, encSec, V.up.upAll, V.up, map_up_lift]
  rintro e s ⟨rfl, rfl⟩
  repeat ((conv => whnf); first | refine Br.t ?_ | refine Br.f ?_ | refine ⟨rfl, ?_⟩)
  conv => whnf
  refine W.le (s' := ⟨sc2 L 0, wrO (secR (a, b, H, c, e, L)) 0 (X2.map by8)⟩) (Le.slE (by simp [leS, sc2]) rfl) (W.mono l2 ?_)
  rintro e s ⟨rfl, rfl⟩
  repeat ((conv => whnf); first | refine Br.t ?_ | refine Br.f ?_ | refine ⟨rfl, ?_⟩)
  conv => whnf
  refine CallW.mono cb.glob ?_
  rintro r st' ⟨rfl, rfl⟩
  repeat ((conv => whnf); first | refine Br.t ?_ | refine Br.f ?_ | refine ⟨rfl, ?_⟩)
  conv => whnf
  refine fin (target := []) rfl (by simp) (by simp) rfl rfl
def js0 (J : List Jst) (i : Nat) : List V := [.undef, .undef, .undef, .ptr 0 0 0 0, .undef, .undef, .undef, .undef, .undef, .i (.sl (J.map encJ)), .i (.int .i64 J.length), .i (.int .i64 i)] ++ List.replicate 14 .undef
def js9 : List V := [.undef, .undef, .undef, .ptr 0 0 0 0] ++ List.replicate 22 .undef
def jstR (j : Jst) : Ob := .row 0 2 false [(encJ j).map .i]
theorem wr_cl' (k : Nat) (zs : List (List I)) (m : Nat) (hm : 1 < m) : ∀ o ∈ wr k zs, o.cl m := by
  intro o ho
  simp only [wr, List.mem_cons, List.not_mem_nil, or_false] at ho
  rcases ho with rfl | rfl
  · intro cs hcs; simp only [List.mem_singleton] at hcs; subst hcs; simp [V.cl, V.cl.clAll]; omega
  · exact cl_lift _ _ _ _ _
theorem flat10 : ∀ L : List Jst, (∀ j ∈ L, jstB j = true) → (L.flatMap jstN).length ≤ 10 * L.length
  | [], _ => Nat.le_refl _
  | x :: L, h => by
    have h1 := flat10 L (fun j hj => h j (by simp [hj]))
    obtain ⟨k1, k2, _⟩ := jstB_ok (h x (by simp))
    have p1 := putN_len 4 x.1.toNat (by omega)
    have p2 := putN_len 4 x.2.toNat (by omega)
    have h2 : (jstN x).length ≤ 10 := by
      unfold jstN; split
      · rw [List.length_append]; omega
      · omega
    simp only [List.flatMap_cons, List.length_append, List.length_cons]; omega
theorem mod32 {a : Int} (h0 : 0 ≤ a) (h1 : a < 4294967296) : (a % 4294967296).toNat = a.toNat := by rw [Int.emod_eq_of_lt h0 h1]
set_option maxHeartbeats 8000000 in
theorem js_loop (J : List Jst) (hj : ∀ j ∈ J, jstB j = true) (hl : J.length ≤ 16) (zs : List Nat) (hz : zs.length ≤ 1000) :
    W Tryd.prog G0 0 (.loop (lp Tryd.f72 0)) (fun e s' => e = .exit 0 ∧ s' = ⟨js9, wr 0 ((zs ++ J.flatMap jstN).map by8)⟩) ⟨js0 J 0, wr 0 (zs.map by8)⟩ := by
  refine W.weak (loop_ok (α := Nat × List Nat) (fun z => ⟨js0 J z.1, wr 0 (z.2.map by8)⟩) (fun z => z.1 ≤ J.length ∧ z.2.length ≤ 1000 + 10 * z.1 ∧ z.2 ++ (J.drop z.1).flatMap jstN = zs ++ J.flatMap jstN) (fun z => J.length - z.1) (0, zs) ⟨Nat.zero_le _, by simp only; omega, rfl⟩ (Le.refl _ _) (fun z hz => wpx_ok (own := own0) _ _ _ ?_))
  obtain ⟨i, X⟩ := z
  obtain ⟨j1, j2, j3⟩ := hz
  simp only at j1 j2 j3
  dsimp only
  generalize zs ++ J.flatMap jstN = LE at j3 ⊢
  repeat ((conv => whnf); first | refine Br.t ?_ | refine Br.f ?_ | refine ⟨rfl, ?_⟩)
  conv => whnf
  refine Br.mk (fun g => ?_) (fun g => ?_)
  · have g : i < J.length := by simp at g; omega
    have edr : J.drop i = J[i] :: J.drop (i + 1) := List.drop_eq_getElem_cons g
    have ex : (J.map encJ).getD ((i : Int)).toNat [] = encJ (J[i]) := by rw [Int.toNat_natCast]; exact getD_enc g
    obtain ⟨k1, k2, k3⟩ := jstB_ok (hj _ (List.getElem_mem g))
    rw [edr, List.flatMap_cons] at j3
    generalize J[i] = x at ex k1 k2 k3 j3
    obtain ⟨a, b⟩ := x
    simp only at k1 k2 k3
    have p1 := putN_len 4 a.toNat (by omega)
    have p2 := putN_len 4 b.toNat (by omega)
    have c1 := atW [jstR (a, b)] (numI 0 (X.map by8) a (by rw [List.length_map]; omega)) rfl rfl
    rw [mod32 (by omega) (by omega), ← List.map_append] at c1
    have c2 := atW [jstR (a, b)] (numI (1 + 0) ((X ++ putN a.toNat).map by8) b (by rw [List.length_map, List.length_append]; omega)) rfl rfl
    rw [mod32 (by omega) (by omega), ← List.map_append] at c2
    repeat ((conv => whnf); first | refine Br.t ?_ | refine Br.f ?_ | refine ⟨rfl, ?_⟩)
    conv => whnf
    refine ⟨⟨by omega, by simp; omega, by rw [ex]; rfl⟩, ?_⟩
    rw [ex]
    repeat ((conv => whnf); first | refine Br.t ?_ | refine Br.f ?_ | refine ⟨rfl, ?_⟩)
    conv => whnf
    refine CallW.mono c1 ?_
    rintro r st' ⟨rfl, rfl⟩
    repeat ((conv => whnf); first | refine Br.t ?_ | refine Br.f ?_ | refine ⟨rfl, ?_⟩)
    conv => whnf
    refine Br.mk (fun q => ?_) (fun q => ?_)
    · have q : a = 2 := by simpa using q
      have ej : jstN (a, b) = putN a.toNat ++ putN b.toNat := by unfold jstN; rw [if_pos q]
      repeat ((conv => whnf); first | refine Br.t ?_ | refine Br.f ?_ | refine ⟨rfl, ?_⟩)
      conv => whnf
      refine CallW.mono c2 ?_
      rintro r st' ⟨rfl, rfl⟩
      repeat ((conv => whnf); first | refine Br.t ?_ | refine Br.f ?_ | refine ⟨rfl, ?_⟩)
      conv => whnf
      refine ⟨(i + 1, X ++ putN a.toNat ++ putN b.toNat), ⟨by simp only; omega, by simp only [List.length_append]; omega, by rw [← j3, ej]; simp only [List.append_assoc]⟩, by simp only; omega, ?_⟩
      refine Le.back (fun id => if id = 1 then 2 else 0) (fun id hid => by cases hid) (Nat.zero_le _) rfl (wr_cl' _ _ _ (by simp [wr])) ?_ ?_
      · simp [leS, js0, V.up]
        exact i64_id (by omega) (by omega)
      · simp [upSt, Ob.up, wr, V.up.upAll, V.up, map_up_lift]
    · have q : ¬ a = 2 := by simpa using q
      have ej : jstN (a, b) = putN a.toNat := by unfold jstN; rw [if_neg q]
      repeat ((conv => whnf); first | refine Br.t ?_ | refine Br.f ?_ | refine ⟨rfl, ?_⟩)
      conv => whnf
      refine ⟨(i + 1, X ++ putN a.toNat), ⟨by simp only; omega, by simp only [List.length_append]; omega, by rw [← j3, ej]; simp only [List.append_assoc]⟩, by simp only; omega, ?_⟩
      refine Le.back (fun id => if id = 1 then 1 else 0) (fun id hid => by cases hid) (Nat.zero_le _) rfl (wr_cl' _ _ _ (by simp [wr])) ?_ ?_
      · simp [leS, js0, V.up]
        exact i64_id (by omega) (by omega)
      · simp [upSt, Ob.up, wr, V.up.upAll, V.up, map_up_lift]
  · have g : i = J.length := by simp at g; omega
    subst g
    rw [List.drop_length, List.flatMap_nil, List.append_nil] at j3
    rw [← j3]
    repeat ((conv => whnf); first | refine Br.t ?_ | refine Br.f ?_ | refine ⟨rfl, ?_⟩)
    conv => whnf
    exact ⟨⟨js9, wr 0 (X.map by8)⟩, Le.slE (by simp [leS, js0, js9]) rfl, rfl, rfl⟩
theorem justs72 (J : List Jst) (hj : ∀ j ∈ J, jstB j = true) (hl : J.length ≤ 16) : CallW Tryd.prog G0 72 [.i (.sl (J.map encJ))] [] (fun r st' => r = .i (.sl ((jstsN J).map by8)) ∧ st' = []) := by
  refine call_of_bodyF 0 (Nat.le_refl _) Tryd.func72 rfl (fun a w => Tryd.call72 a w) (wpx_ok (own := own0) _ _ _ ?_)
  have cn := (num 0 [] J.length (by omega) (by simp)).wr0
  rw [List.nil_append] at cn
  have pl := putN_len 4 J.length (by omega)
  have lo := js_loop J hj hl (putN J.length) (by omega)
  have f := flat10 J hj
  have e : putN J.length ++ J.flatMap jstN = jstsN J := rfl
  have hXl : (jstsN J).length ≤ 1000 := by rw [← e, List.length_append]; omega
  rw [e] at lo
  generalize jstsN J = X at lo hXl ⊢
  have cb := bytes 0 (X.map by8) (bytes_one _) (by rw [List.length_map]; omega)
  repeat ((conv => whnf); first | refine Br.t ?_ | refine Br.f ?_ | refine ⟨rfl, ?_⟩)
  conv => whnf
  rw [show (((J.map encJ).length : Nat) : Int) = ((J.length : Nat) : Int) by rw [List.length_map]]
  refine CallW.mono cn ?_
  rintro r st' ⟨rfl, rfl⟩
  repeat ((conv => whnf); first | refine Br.t ?_ | refine Br.f ?_ | refine ⟨rfl, ?_⟩)
  conv => whnf
  refine W.le (s' := ⟨js0 J 0, wr 0 ((putN J.length).map by8)⟩) (Le.down (fun id => if id = 1 then 1 else 0) (fun id hid => by cases hid) ?_ ?_) (W.mono lo ?_)
  · simp [leS, js0, V.up]
  · simp [upSt, Ob.up, wr, V.up.upAll, V.up, map_up_lift]
  rintro e s ⟨rfl, rfl⟩
  repeat ((conv => whnf); first | refine Br.t ?_ | refine Br.f ?_ | refine ⟨rfl, ?_⟩)
  conv => whnf
  refine CallW.mono cb ?_
  rintro r st' ⟨rfl, rfl⟩
  repeat ((conv => whnf); first | refine Br.t ?_ | refine Br.f ?_ | refine ⟨rfl, ?_⟩)
  conv => whnf
  refine fin (target := []) rfl (by simp) (by simp) rfl rfl
end Go.Proofs.YtdbmfnhbgacldaaDoor.Am

/- Contracts: SHA-256 of a link and a part. -/
namespace Go.Proofs.YtdbmfnhbgacldaaDoor.Am
set_option autoImplicit false
set_option linter.unusedVariables false
set_option linter.unusedSimpArgs false
set_option maxRecDepth 10000
set_option pp.maxSteps 3000
set_option pp.proofs false
/-- a digest on its way, whose bytes that are left lie in a row -/
def shRf (v : W8) (id off len n : Nat) : Ob := .row 0 10 false [[u32V v.1, u32V v.2.1, u32V v.2.2.1, u32V v.2.2.2.1, u32V v.2.2.2.2.1, u32V v.2.2.2.2.2.1, u32V v.2.2.2.2.2.2.1, u32V v.2.2.2.2.2.2.2, .ref id 3 off len, .i (.int .u64 (n : Nat))]]
set_option maxHeartbeats 4000000 in
theorem write_r (tz : Option (List I)) (ks : List Nat) (hk : ks.length = 64) (hkl : ∀ x ∈ ks, x < 4294967296) (h0 : W8) (hh : okW8 h0) (B : List Nat) (hB : ∀ b ∈ B, b < 256) (bs : List Nat) (hb : ∀ b ∈ bs, b < 256) (hl : (B ++ bs).length ≤ 1000000000) :
    CallW Tryd.prog (Gk tz ks) 92 [.ptr 0 0 0 0, .i (.sl (bs.map by8))] [shS ks h0 B] (fun r st' => r = .tup [] ∧ st' = [shRf (hashW ks h0 (B ++ bs) ((B ++ bs).length / 64)) 1 (64 * (((B ++ bs).drop (64 * (B.length / 64))).length / 64)) (((B ++ bs).drop (64 * (B.length / 64))).length % 64) (B ++ bs).length, .row 3 1 false (lift (((B ++ bs).drop (64 * (B.length / 64))).map by8))]) := by
  refine call_of_body Tryd.func92 rfl (fun a w => Tryd.call92 a w) (W.weak (wpx_ok (own := own0) _ _ _ ?_))
  have hl2 : (B ++ bs).length = B.length + bs.length := List.length_append
  obtain ⟨q, hq⟩ : ∃ q, q = B.length / 64 := ⟨_, rfl⟩
  obtain ⟨L, hL⟩ : ∃ L, L = B.drop (64 * q) := ⟨_, rfl⟩
  obtain ⟨A, hA⟩ : ∃ A, A = L ++ bs := ⟨_, rfl⟩
  have hAB : A = (B ++ bs).drop (64 * q) := by rw [hA, hL, hq]; exact drop_blocks B bs
  have hLl : L.length = B.length - 64 * q := by rw [hL]; simp
  have hAl : A.length = L.length + bs.length := by rw [hA]; simp
  have hAb : ∀ b ∈ A, b < 256 := fun b h => by
    rw [hAB] at h
    rcases List.mem_append.1 (List.mem_of_mem_drop h) with h | h
    · exact hB b h
    · exact hb b h
  have lo := wr_loop tz ks hk hkl h0 hh (B ++ bs).length A hAb (by omega) q (B ++ bs) hAB
  have hE : hashW ks h0 (B ++ bs) q = hashW ks h0 B q := hash_app ks h0 B bs q (by omega)
  rw [hE] at lo
  unfold shS
  rw [← hq, ← hL]
  have en : IntKind.u64.wrap ((B.length : Int) + IntKind.u64.wrap (((bs.map by8).length : Nat) : Int)) = (((B ++ bs).length : Nat) : Int) := by
    rw [List.length_map, hl2]
    simp [IntKind.wrap, IntKind.signed, IntKind.bits]; omega
  repeat ((conv => whnf); first | refine Br.t ?_ | refine Br.f ?_ | refine ⟨rfl, ?_⟩)
  conv => whnf
  rw [en]
  refine ⟨⟨one_by L, rfl, by show (0 + (lift (L.map by8)).length) * 1 ≤ _; simp [lift]; omega, len_mx (by simp [lift]; omega)⟩, ?_⟩
  repeat ((conv => whnf); first | refine Br.t ?_ | refine Br.f ?_ | refine ⟨rfl, ?_⟩)
  conv => whnf
  refine ⟨⟨one_by bs, by simp [lift], by show (0 + (lift (L.map by8)).length + (lift (bs.map by8)).length) * 1 ≤ _; simp [lift]; omega, len_mx (by simp [lift]; omega)⟩, ?_⟩
  repeat ((conv => whnf); first | refine Br.t ?_ | refine Br.f ?_ | refine ⟨rfl, ?_⟩)
  conv => whnf
  refine W.le (s' := ⟨wrS 0 A.length, wrR (hashW ks h0 B q) (B ++ bs).length A⟩) ((Le.blur 0 0 8 rfl rfl (by show 8 < 10; decide)).trans (Le.slE ?_ ?_)) (W.mono lo ?_)
  · simp [leS, mkS, wrS, lift]
    omega
  · show _ = [shU (hashW ks h0 B q) (B ++ bs).length, .row 3 1 false (lift (A.map by8))]
    rw [hA, List.map_append, lift_app]
    rfl
  rintro e s ⟨rfl, rfl⟩
  have e1 : (B ++ bs).length / 64 = q + A.length / 64 := by omega
  rw [e1, ← hAB]
  generalize hashW ks h0 (B ++ bs) (q + A.length / 64) = H
  generalize 64 * (A.length / 64) = off
  generalize A.length % 64 = len
  repeat ((conv => whnf); first | refine Br.t ?_ | refine Br.f ?_ | refine ⟨rfl, ?_⟩)
  conv => whnf
  refine ⟨_, Le.refl _ _, ?_⟩
  repeat ((conv => whnf); first | refine Br.t ?_ | refine Br.f ?_ | refine ⟨rfl, ?_⟩)
  conv => whnf
  exact rfl

end Go.Proofs.YtdbmfnhbgacldaaDoor.Am

/- Contracts: SHA-256 of a link and a part, all. -/
namespace Go.Proofs.YtdbmfnhbgacldaaDoor.Am
set_option autoImplicit false
set_option linter.unusedVariables false
set_option linter.unusedSimpArgs false
set_option maxRecDepth 100000
set_option pp.maxSteps 3000
set_option pp.proofs false
def lnkR (D : List Nat) : Ob := .row 1 1 false (lift (D.map by8))
def partR (b : List Nat) : Ob := .row 1 1 false [[.ref 0 1 0 32], [.i (.sl (b.map by8))]]
theorem lift_sf (L : List Nat) : ∀ cs ∈ lift (L.map by8), V.sf.sfAll cs = true := by
  intro cs h
  simp only [lift, List.mem_map] at h
  obtain ⟨_, ⟨x, _, rfl⟩, rfl⟩ := h
  rfl
theorem write_ref (tz : Option (List I)) (ks : List Nat) (hk : ks.length = 64) (hkl : ∀ x ∈ ks, x < 4294967296) (D : List Nat) (hD : D.length = 32) (hb : ∀ x ∈ D, x < 256) (ob : Ob) :
    CallW Tryd.prog (Gk tz ks) 92 [.ptr 3 0 0 0, .ref 0 1 0 32] [lnkR D, ob, b32R, shS ks H0W []] (fun r st' => r = .tup [] ∧ st' = [lnkR D, ob, b32R, shRf H0W 4 0 32 32, .row 3 1 false (lift (D.map by8))]) := by
  have h := write_r tz ks hk hkl H0W H0_ok [] (by simp) D hb (by simp [hD])
  have e1 : ([] ++ D : List Nat) = D := rfl
  have e2 : D.drop (64 * (([] : List Nat).length / 64)) = D := rfl
  rw [e1, e2, hD] at h
  change CallW _ _ _ _ _ (fun r st' => r = .tup [] ∧ st' = [shRf H0W 1 0 32 32, .row 3 1 false (lift (D.map by8))]) at h
  refine (CallW.rise (bargs := [.ptr 3 0 0 0, .ref 0 1 0 32]) (big := [lnkR D, ob, b32R, shS ks H0W []]) [3] [0] h rfl (by simp) (by simp) rfl (fun o ho => by simp only [List.mem_singleton] at ho; subst ho; exact shS_cl ks H0W [] 1) (by simp) rfl (fun j s u hs hu => ?_) (.inr (by
    rintro r st' ⟨rfl, rfl⟩
    refine ⟨rfl, fun o ho => ?_⟩
    simp only [List.mem_cons, List.not_mem_nil, or_false] at ho
    rcases ho with rfl | rfl
    · exact ⟨rfl, fun cs hcs => by simp only [List.mem_singleton] at hcs; subst hcs; rfl⟩
    · exact ⟨rfl, lift_sf D⟩))).mono ?_
  · match j with
    | 0 =>
      simp only [List.getElem?_cons_zero, Option.some.injEq] at hs hu
      subst hs hu
      exact .inl ⟨rfl, rfl⟩
    | 1 =>
      simp only [List.getElem?_cons_succ, List.getElem?_cons_zero, Option.some.injEq] at hs hu
      subst hs hu
      exact .inr ⟨0, 1, 0, 32, 1, false, D.map by8, rfl, by simp, rfl, by rw [List.drop_zero, List.take_of_length_le (by simp [hD])]⟩
    | j + 2 => simp at hs
  · rintro r st' ⟨r0, s0, ⟨rfl, rfl⟩, rfl, rfl⟩
    refine ⟨rfl, ?_⟩
    simp only [List.map_cons, List.map_nil]
    rw [show (Ob.row 3 1 false (lift (D.map by8))).ren (fm [3] ([lnkR D, ob, b32R, shS ks H0W []] : List Ob).length) = Ob.row 3 1 false (lift (D.map by8)) from ren_lift _ _ _ _ _]
    rfl
def o2L (i : Nat) : List V := [.undef, .undef, .ptr 2 1 0 0, .ptr 3 0 0 0, .undef, .undef, .undef, .ref 1 1 0 2, .i (.int .i64 (2 : Nat)), .i (.int .i64 i)] ++ List.replicate 9 .undef
def o2E : List V := [.undef, .undef, .ptr 2 1 0 0, .ptr 3 0 0 0] ++ List.replicate 15 .undef
theorem new_le4 {n : Nat} (sl : List V) (a b : Ob) (ks : List Nat) : Le n ⟨sl, [a, b, b32R, newB]⟩ ⟨sl, [a, b, b32R, shS ks H0W []]⟩ := by
  have h := Le.ndCell (n := n) (sl := sl) (st := [a, b, b32R, newB]) 3 0 8 rfl rfl rfl
  exact h
def b2 (D b : List Nat) (i : Nat) : List Nat := if i = 0 then [] else if i = 1 then D else D ++ b
theorem b32_cl' (m : Nat) : b32R.cl m := by
  intro cs hcs
  have := List.eq_of_mem_replicate hcs
  subst this
  rfl
theorem lnk_cl (D : List Nat) (m : Nat) : (lnkR D).cl m := cl_lift _ _ _ _ _
theorem part_cl (b : List Nat) (m : Nat) (hm : 0 < m) : (partR b).cl m := by
  intro cs hcs
  simp only [List.mem_cons, List.not_mem_nil, or_false] at hcs
  rcases hcs with rfl | rfl
  · simp [V.cl, V.cl.clAll]; omega
  · rfl
set_option maxHeartbeats 8000000 in
theorem of2_loop (tz : Option (List I)) (ks : List Nat) (hk : ks.length = 64) (hkl : ∀ x ∈ ks, x < 4294967296) (D : List Nat) (hD : D.length = 32) (hd : ∀ x ∈ D, x < 256) (b : List Nat) (hb : ∀ x ∈ b, x < 256) (hl : b.length ≤ 1000000) :
    W Tryd.prog (Gk tz ks) 2 (.loop (lp Tryd.f62 0)) (fun e s => e = .exit 0 ∧ s = ⟨o2E, [lnkR D, partR b, b32R, shS ks H0W (D ++ b)]⟩) ⟨o2L 0, [lnkR D, partR b, b32R, shS ks H0W []]⟩ := by
  refine W.weak (loop_ok (α := Nat) (fun i => ⟨o2L i, [lnkR D, partR b, b32R, shS ks H0W (b2 D b i)]⟩) (fun i => i ≤ 2) (fun i => 2 - i) 0 (Nat.zero_le _) (Le.refl _ _) (fun i hi => wpx_ok (own := own0) _ _ _ ?_))
  have hc : i = 0 ∨ i = 1 ∨ i = 2 := by omega
  rcases hc with rfl | rfl | rfl
  · have cw := write_ref tz ks hk hkl D hD hd (partR b)
    have e : shS ks H0W (b2 D b 0) = shS ks H0W [] := rfl
    rw [e]
    have hS : shS ks H0W D = shB H0W D 32 := by
      unfold shS
      rw [hD]; rfl
    repeat ((conv => whnf); first | refine Br.t ?_ | refine Br.f ?_ | refine ⟨rfl, ?_⟩)
    conv => whnf
    refine ⟨⟨by decide, by decide⟩, ?_⟩
    repeat ((conv => whnf); first | refine Br.t ?_ | refine Br.f ?_ | refine ⟨rfl, ?_⟩)
    conv => whnf
    refine CallW.mono cw ?_
    rintro r st' ⟨rfl, rfl⟩
    repeat ((conv => whnf); first | refine Br.t ?_ | refine Br.f ?_ | refine ⟨rfl, ?_⟩)
    conv => whnf
    refine ⟨1, by decide, by decide, ?_⟩
    refine Le.trans (s' := ⟨o2L 1, [lnkR D, partR b, b32R, shS ks H0W D] ++ [.dead]⟩) (Le.data 4 3 1 (D.map by8) rfl ?_ ?_) (Le.short (by show 2 ≤ 4; decide) rfl ?_)
    · simp [leS, o2L, V.dat]
      rfl
    · rw [hS]
      simp only [List.map_cons, List.map_nil, Ob.dat, V.dat.datAll, V.dat]
      simp [lnkR, partR, b32R, shB, u32V, Ob.dat, V.dat.datAll, V.dat]
      exact (List.take_of_length_le (by simp [hD])).symm
    · intro o ho
      simp only [List.mem_cons, List.not_mem_nil, or_false] at ho
      rcases ho with rfl | rfl | rfl | rfl
      · exact lnk_cl _ _
      · exact part_cl _ _ (by show 0 < 4; decide)
      · exact b32_cl' _
      · exact shS_cl _ _ _ _
  · have cw := write_at tz ks hk hkl H0W H0_ok D hd b hb (by rw [List.length_append]; omega) [lnkR D, partR b, b32R] []
    repeat ((conv => whnf); first | refine Br.t ?_ | refine Br.f ?_ | refine ⟨rfl, ?_⟩)
    conv => whnf
    refine ⟨⟨by decide, by decide⟩, ?_⟩
    repeat ((conv => whnf); first | refine Br.t ?_ | refine Br.f ?_ | refine ⟨rfl, ?_⟩)
    conv => whnf
    refine CallW.mono cw ?_
    rintro r st' ⟨rfl, rfl⟩
    repeat ((conv => whnf); first | refine Br.t ?_ | refine Br.f ?_ | refine ⟨rfl, ?_⟩)
    conv => whnf
    exact ⟨2, by decide, by decide, Le.slE (by simp [leS, o2L]; rfl) rfl⟩
  · repeat ((conv => whnf); first | refine Br.t ?_ | refine Br.f ?_ | refine ⟨rfl, ?_⟩)
    conv => whnf
    exact ⟨_, Le.slE (sl' := o2E) (by simp [leS, o2L, o2E]) rfl, rfl, rfl⟩
theorem fin2 {o1 o2 : Ob} {rest : List Ob} {m : Nat} (h1 : o1.cl 2) (h2 : o2.cl 2) : ∀ o ∈ (o1 :: o2 :: rest).take 2, o.cl 2 := by
  intro o ho
  simp only [List.take_succ_cons, List.take_zero, List.mem_cons, List.not_mem_nil, or_false] at ho
  rcases ho with rfl | rfl
  · exact h1
  · exact h2
set_option maxHeartbeats 8000000 in
theorem of2_ok (tz : Option (List I)) (ks : List Nat) (hk : ks.length = 64) (hkl : ∀ x ∈ ks, x < 4294967296) (D : List Nat) (hD : D.length = 32) (hd : ∀ x ∈ D, x < 256) (b : List Nat) (hb : ∀ x ∈ b, x < 256) (hl : b.length ≤ 1000000) :
    CallW Tryd.prog (Gk tz ks) 62 [.ref 1 1 0 2] [lnkR D, partR b] (fun r st' => r = dArr (shaW ks H0W (D ++ b)) ∧ st' = [lnkR D, partR b]) := by
  refine call_of_bodyF 2 (Nat.le_refl _) Tryd.func62 rfl (fun a w => Tryd.call62 a w) (wpx_ok (own := own0) _ _ _ ?_)
  have lo := of2_loop tz ks hk hkl D hD hd b hb hl
  have hdb : ∀ x ∈ D ++ b, x < 256 := fun x hx => by
    rcases List.mem_append.1 hx with h | h
    · exact hd x h
    · exact hb x h
  have csm := sum_at tz ks hk hkl H0W H0_ok (D ++ b) hdb (by rw [List.length_append]; omega) [lnkR D, partR b, b32R] []
  have hE : (shaW ks H0W (D ++ b)).length = 32 := digL_len _ _
  generalize shaW ks H0W (D ++ b) = E at csm hE ⊢
  obtain ⟨e0, e1, e2, e3, e4, e5, e6, e7, e8, e9, e10, e11, e12, e13, e14, e15, e16, e17, e18, e19, e20, e21, e22, e23, e24, e25, e26, e27, e28, e29, e30, e31, rfl⟩ := list32 hE
  repeat ((conv => whnf); first | refine Br.t ?_ | refine Br.f ?_ | refine ⟨rfl, ?_⟩)
  conv => whnf
  refine (CallW.fresh2 _ new_ok.glob rfl).mono ?_
  rintro r st' ⟨rfl, rfl⟩
  repeat ((conv => whnf); first | refine Br.t ?_ | refine Br.f ?_ | refine ⟨rfl, ?_⟩)
  conv => whnf
  refine W.le (s' := ⟨o2L 0, [lnkR D, partR b, b32R, shS ks H0W []]⟩) ((Le.slE (sl' := o2L 0) (st' := [lnkR D, partR b, b32R, newB]) (by simp [leS, o2L]; try rfl) rfl).trans (new_le4 _ _ _ ks)) (W.mono lo ?_)
  rintro e s ⟨rfl, rfl⟩
  repeat ((conv => whnf); first | refine Br.t ?_ | refine Br.f ?_ | refine ⟨rfl, ?_⟩)
  conv => whnf
  refine CallW.mono csm ?_
  rintro r st' ⟨rfl, rfl⟩
  repeat ((conv => whnf); first | refine Br.t ?_ | refine Br.f ?_ | refine ⟨rfl, ?_⟩)
  conv => whnf
  refine ⟨⟨rfl, rfl, rfl, rfl, rfl⟩, ?_⟩
  repeat ((conv => whnf); first | refine Br.t ?_ | refine Br.f ?_ | refine ⟨rfl, ?_⟩)
  conv => whnf
  refine ⟨⟨rfl, rfl, rfl⟩, ?_⟩
  repeat ((conv => whnf); first | refine Br.t ?_ | refine Br.f ?_ | refine ⟨rfl, ?_⟩)
  conv => whnf
  exact ⟨by show 2 ≤ 4; decide, rfl, fin2 (m := 0) (lnk_cl _ _) (part_cl _ _ (by decide)), rfl, rfl⟩
end Go.Proofs.YtdbmfnhbgacldaaDoor.Am

/- Contracts: a part and its link are written. -/
namespace Go.Proofs.YtdbmfnhbgacldaaDoor.Am
set_option autoImplicit false
set_option linter.unusedVariables false
set_option linter.unusedSimpArgs false
set_option maxRecDepth 100000
set_option pp.maxSteps 3000
set_option pp.proofs false
theorem wr_sf (k : Nat) (L : List Nat) : ∀ o ∈ wr k (L.map by8), o.sf := by
  intro o ho
  simp only [wr, List.mem_cons, List.not_mem_nil, or_false] at ho
  rcases ho with rfl | rfl
  · exact ⟨rfl, fun cs hcs => by simp only [List.mem_singleton] at hcs; subst hcs; rfl⟩
  · exact ⟨rfl, lift_sf L⟩
theorem rawL (k : Nat) (Y D : List Nat) (hD : D.length = 32) (hl : Y.length ≤ 1000000) (post : List Ob) :
    CallW Tryd.prog G0 18 [.ptr 0 0 0 0, .ref 2 1 0 32] (wr k (Y.map by8) ++ lnkR D :: post) (fun r st' => r = .tup [] ∧ st' = wr (1 + k) ((Y ++ D).map by8) ++ lnkR D :: post) := by
  have h := raw k (Y.map by8) (D.map by8) (bytes_one _) (by simp [hD]; omega)
  rw [← List.map_append] at h
  refine (CallW.rise (bargs := [.ptr 0 0 0 0, .ref 2 1 0 32]) (big := wr k (Y.map by8) ++ lnkR D :: post) [0, 1] [2] h rfl (by decide) (by simp [wr]) ?_ (wr_cl _ _) (by simp) rfl (fun j s u hs hu => ?_) (.inr (by
    rintro r st' ⟨rfl, rfl⟩
    exact ⟨rfl, wr_sf _ _⟩))).mono ?_
  · rw [wr_ren _ rfl rfl]
    rfl
  · match j with
    | 0 =>
      simp only [List.getElem?_cons_zero, Option.some.injEq] at hs hu
      subst hs hu
      exact .inl ⟨rfl, rfl⟩
    | 1 =>
      simp only [List.getElem?_cons_succ, List.getElem?_cons_zero, Option.some.injEq] at hs hu
      subst hs hu
      exact .inr ⟨2, 1, 0, 32, 1, false, D.map by8, rfl, by simp, rfl, by rw [List.drop_zero, List.take_of_length_le (by simp [hD])]⟩
    | j + 2 => simp at hs
  · rintro r st' ⟨r0, s0, ⟨rfl, rfl⟩, rfl, rfl⟩
    rw [wr_ren _ rfl rfl]
    exact ⟨rfl, by simp [putAll, wr]⟩
def partR2 (b : List Nat) : Ob := .row 1 1 false [[.ref 2 1 0 32], [.i (.sl (b.map by8))]]
theorem of2_at (tz : Option (List I)) (D : List Nat) (hD : D.length = 32) (hd : ∀ x ∈ D, x < 256) (b : List Nat) (hb : ∀ x ∈ b, x < 256) (hl : b.length ≤ 1000000) (k : Nat) (zs : List (List I)) :
    CallW Tryd.prog (Gk tz KEYS) 62 [.ref 3 1 0 2] (wr k zs ++ [lnkR D, partR2 b]) (fun r st' => r = dArr (lnk D b) ∧ st' = wr k zs ++ [lnkR D, partR2 b]) := by
  have h := of2_ok tz KEYS KEYS_len KEYS_lt D hD hd b hb hl
  refine (CallW.rise (bargs := [.ref 3 1 0 2]) (big := wr k zs ++ [lnkR D, partR2 b]) [2, 3] [] h rfl (by decide) (by simp [wr]) ?_ (fun o ho => ?_) (by simp) rfl (fun j s u hs hu => ?_) (.inl rfl)).mono ?_
  · simp only [List.map_cons, List.map_nil, lnkR, ren_lift]
    rfl
  · simp only [List.mem_cons, List.not_mem_nil, or_false] at ho
    rcases ho with rfl | rfl
    · exact lnk_cl _ _
    · exact part_cl _ _ (by show 0 < 2; decide)
  · match j with
    | 0 =>
      simp only [List.getElem?_cons_zero, Option.some.injEq] at hs hu
      subst hs hu
      exact .inl ⟨rfl, rfl⟩
    | j + 1 => simp at hs
  · rintro r st' ⟨r0, s0, ⟨rfl, rfl⟩, rfl, rfl⟩
    refine ⟨ren_cl0 _ _ (cl_b 0 _), ?_⟩
    simp only [List.map_cons, List.map_nil, lnkR, ren_lift]
    rfl
theorem wl_cl (k : Nat) (zs : List (List I)) (D : List Nat) (m : Nat) (hm : 1 < m) : ∀ o ∈ wr k zs ++ [lnkR D], o.cl m := by
  intro o ho
  rcases List.mem_append.1 ho with h | h
  · exact wr_cl' k zs m hm o h
  · simp only [List.mem_singleton] at h; subst h; exact lnk_cl _ _
set_option maxHeartbeats 8000000 in
theorem put70 (tz : Option (List I)) (k : Nat) (Y b D : List Nat) (hD : D.length = 32) (hd : ∀ x ∈ D, x < 256) (hb : ∀ x ∈ b, x < 256) (hl : b.length ≤ 100000) (hY : Y.length ≤ 500000) :
    CallW Tryd.prog (Gk tz KEYS) 70 [.i (.sl (b.map by8)), .ptr 0 0 0 0, .ptr 2 1 0 0] (wr k (Y.map by8) ++ [lnkR D]) (fun r st' => r = .tup [] ∧ st' = wr (1 + (1 + k)) ((Y ++ b ++ lnk D b).map by8) ++ [lnkR (lnk D b)]) := by
  refine call_of_bodyF 3 (Nat.le_refl _) Tryd.func70 rfl (fun a w => Tryd.call70 a w) (wpx_ok (own := fun t => t == 8) _ _ _ ?_)
  have c1 := atW [lnkR D] (raw k (Y.map by8) (b.map by8) (bytes_one _) (by rw [List.length_map, List.length_map]; omega)) rfl rfl
  rw [← List.map_append] at c1
  have c2 := of2_at tz D hD hd b hb (by omega) (1 + k) ((Y ++ b).map by8)
  have hE := lnk_len D b
  have hDl : ((lift (D.map by8)).take 32).length = 32 := by simp [lift, hD]
  generalize lnk D b = E at c2 hE ⊢
  have c3 := rawL (1 + k) (Y ++ b) E hE (by rw [List.length_append]; omega) [partR2 b]
  obtain ⟨e0, e1, e2, e3, e4, e5, e6, e7, e8, e9, e10, e11, e12, e13, e14, e15, e16, e17, e18, e19, e20, e21, e22, e23, e24, e25, e26, e27, e28, e29, e30, e31, rfl⟩ := list32 hE
  repeat ((conv => whnf); first | refine Br.t ?_ | refine Br.f ?_ | refine ⟨rfl, ?_⟩)
  conv => whnf
  refine CallW.mono c1.glob ?_
  rintro r st' ⟨rfl, rfl⟩
  repeat ((conv => whnf); first | refine Br.t ?_ | refine Br.f ?_ | refine ⟨rfl, ?_⟩)
  conv => whnf
  refine ⟨⟨rfl, rfl, hDl, by decide, by decide, by decide, by decide, by decide⟩, ?_⟩
  repeat ((conv => whnf); first | refine Br.t ?_ | refine Br.f ?_ | refine ⟨rfl, ?_⟩)
  conv => whnf
  refine CallW.mono c2 ?_
  rintro r st' ⟨rfl, rfl⟩
  repeat ((conv => whnf); first | refine Br.t ?_ | refine Br.f ?_ | refine ⟨rfl, ?_⟩)
  conv => whnf
  refine ⟨⟨rfl, rfl, by simp [lift, hD], rfl, rfl⟩, ?_⟩
  repeat ((conv => whnf); first | refine Br.t ?_ | refine Br.f ?_ | refine ⟨rfl, ?_⟩)
  conv => whnf
  refine ⟨⟨rfl, rfl, rfl, by decide, by decide, by decide, by decide, by decide⟩, ?_⟩
  repeat ((conv => whnf); first | refine Br.t ?_ | refine Br.f ?_ | refine ⟨rfl, ?_⟩)
  conv => whnf
  refine CallW.mono c3.glob ?_
  rintro r st' ⟨rfl, rfl⟩
  repeat ((conv => whnf); first | refine Br.t ?_ | refine Br.f ?_ | refine ⟨rfl, ?_⟩)
  conv => whnf
  exact ⟨by show 3 ≤ 4; decide, rfl, wl_cl _ _ _ 3 (by decide), rfl, rfl⟩
end Go.Proofs.YtdbmfnhbgacldaaDoor.Am

/- Contracts: a certificate's bytes. -/
namespace Go.Proofs.YtdbmfnhbgacldaaDoor.Am
set_option autoImplicit false
set_option linter.unusedVariables false
set_option linter.unusedSimpArgs false
set_option maxRecDepth 100000
set_option pp.maxSteps 3000
set_option pp.proofs false
theorem upO0 {G : Gl} {f : FuncId} {args : List V} {v : V} {k' : Nat} {zs' : List (List I)} (o d : Ob) (h : CallW Tryd.prog G f args wr0 (fun r st' => r = v ∧ st' = wr k' zs')) (ha : V.cl.clAll 1 args = true) (hv : V.cl 0 v = true) :
    CallW Tryd.prog G f (V.ren.renAll (fm [1] 3) args) [o, .row 0 1 false [[.nils]], d] (fun r st' => r = v ∧ st' = wrU o d k' zs') := by
  refine (CallW.rise (bargs := V.ren.renAll (fm [1] 3) args) (big := [o, .row 0 1 false [[.nils]], d]) [1] [] h rfl (by decide) (by simp) rfl (by simp [wr0, Ob.cl, V.cl.clAll, V.cl]) (by simp) (renAll_len _ _) (args_ren ha) (.inl rfl)).mono ?_
  rintro r st' ⟨r0, s0, ⟨rfl, rfl⟩, rfl, rfl⟩
  refine ⟨ren_cl0 _ _ hv, ?_⟩
  simp only [wr, wrU, List.map_cons, List.map_nil, ren_lift]
  rfl
theorem upL {G : Gl} {f : FuncId} {args : List V} {v : V} {k k' : Nat} {zs zs' : List (List I)} {D D' : List Nat} (o d : Ob) (post : List Ob) (h : CallW Tryd.prog G f args (wr k zs ++ [lnkR D]) (fun r st' => r = v ∧ st' = wr k' zs' ++ [lnkR D'])) (ha : V.cl.clAll 3 args = true) (hv : V.cl 0 v = true) :
    CallW Tryd.prog G f (V.ren.renAll (fm [1, 3, 4] (wrU o d k zs ++ lnkR D :: post).length) args) (wrU o d k zs ++ lnkR D :: post) (fun r st' => r = v ∧ st' = wrU o d k' zs' ++ lnkR D' :: post) := by
  refine (CallW.rise (bargs := V.ren.renAll (fm [1, 3, 4] (wrU o d k zs ++ lnkR D :: post).length) args) (big := wrU o d k zs ++ lnkR D :: post) [1, 3, 4] [] h rfl (by decide) (by simp [wrU]) ?_ (wl_cl _ _ _ 3 (by decide)) (by simp) (renAll_len _ _) (args_ren ha) (.inl rfl)).mono ?_
  · simp only [wr, lnkR, List.map_cons, List.map_nil, ren_lift, List.cons_append, List.nil_append]
    rfl
  · rintro r st' ⟨r0, s0, ⟨rfl, rfl⟩, rfl, rfl⟩
    refine ⟨ren_cl0 _ _ hv, ?_⟩
    simp only [wr, wrU, lnkR, List.map_cons, List.map_nil, ren_lift, List.cons_append, List.nil_append]
    show putAll _ [1, 3, 4] [Ob.row 0 1 false [[V.ref 3 (k' + 1) 0 zs'.length]], Ob.row (k' + 1) 1 false (lift zs'), Ob.row 1 1 false (lift (D'.map by8))] = _
    simp [putAll]
theorem put_at (tz : Option (List I)) (o d : Ob) (post : List Ob) (k : Nat) (Y b D : List Nat) (hD : D.length = 32) (hd : ∀ x ∈ D, x < 256) (hb : ∀ x ∈ b, x < 256) (hl : b.length ≤ 100000) (hY : Y.length ≤ 500000) :
    CallW Tryd.prog (Gk tz KEYS) 70 [.i (.sl (b.map by8)), .ptr 1 0 0 0, .ptr 4 1 0 0] (wrU o d k (Y.map by8) ++ lnkR D :: post) (fun r st' => r = .tup [] ∧ st' = wrU o d (1 + (1 + k)) ((Y ++ b ++ lnk D b).map by8) ++ lnkR (lnk D b) :: post) :=
  upL o d post (put70 tz k Y b D hD hd hb hl hY) rfl rfl
theorem secN_byte (s : Sec) : ∀ x ∈ secN s, x < 256 := by
  intro x hx
  simp only [secN, List.mem_append, List.mem_flatMap] at hx
  rcases hx with hx | hx | hx | hx | hx | ⟨m, _, hx⟩ | ⟨m, _, hx⟩
  · exact setN_byte _ x hx
  · exact setN_byte _ x hx
  · exact setN_byte _ x hx
  · exact setN_byte _ x hx
  · exact putN_byte _ x hx
  · exact setN_byte _ x hx
  · exact setN_byte _ x hx
theorem jstsN_byte (l : List Jst) : ∀ x ∈ jstsN l, x < 256 := by
  intro x hx
  simp only [jstsN, List.mem_append, List.mem_flatMap] at hx
  rcases hx with hx | ⟨j, _, hx⟩
  · exact putN_byte _ x hx
  · unfold jstN at hx
    split at hx
    · rcases List.mem_append.1 hx with hx | hx <;> exact putN_byte _ x hx
    · exact putN_byte _ x hx
theorem secN_len {s : Sec} (h : SecOk s) : (secN s).length ≤ 5000 := by
  have h1 := flat37 s.2.2.1
  have h2 := flat37 s.2.2.2.2.2
  have := h.n; have := h.l
  have p := putN_len 4 s.2.2.1.length (by omega)
  have q1 : (setN s.1).length ≤ 37 := setN_len
  have q2 : (setN s.2.1).length ≤ 37 := setN_len
  have q3 : (setN s.2.2.2.1).length ≤ 37 := setN_len
  have q4 : (setN s.2.2.2.2.1).length ≤ 37 := setN_len
  simp only [secN, List.length_append]; omega
theorem jstsN_len {l : List Jst} (h : ∀ j ∈ l, jstB j = true) (hl : l.length ≤ 16) : (jstsN l).length ≤ 200 := by
  have p := putN_len 4 l.length (by omega)
  have f := flat10 l h
  simp only [jstsN, List.length_append]; omega
def cwL (ss : List Sec) (i : Nat) : List V := [.undef, .ptr 0 0 0 0, .undef, .undef, .undef, .undef, .ptr 1 0 0 0, .undef, .fn (.func 70) [] [.ptr 1 0 0 0, .ptr 4 1 0 0], .undef, .undef, .undef, .undef, .undef, .undef, .undef, .undef, .undef, .undef, .undef, .undef, .undef, .undef, .undef, .undef, .undef, .undef, .undef, .undef, .undef, .undef, .undef, .i (.sl (ss.map encSec)), .i (.int .i64 ss.length), .i (.int .i64 i)] ++ List.replicate 14 .undef
def cwE : List V := [.undef, .ptr 0 0 0 0, .undef, .undef, .undef, .undef, .ptr 1 0 0 0, .undef, .fn (.func 70) [] [.ptr 1 0 0 0, .ptr 4 1 0 0]] ++ List.replicate 40 .undef
theorem wo_cl (d0 d1 d2 d3 d4 d5 d6 d7 d8 d9 d10 d11 d12 d13 d14 d15 d16 d17 d18 d19 d20 d21 d22 d23 d24 d25 d26 d27 d28 d29 d30 d31 : Nat) (ss : List Sec) (js : List Jst) (k : Nat) (zs : List (List I)) (D : List Nat) (m : Nat) (hm : 3 < m) : ∀ o ∈ wrU (ctR ⟨l32 d0 d1 d2 d3 d4 d5 d6 d7 d8 d9 d10 d11 d12 d13 d14 d15 d16 d17 d18 d19 d20 d21 d22 d23 d24 d25 d26 d27 d28 d29 d30 d31, ss, js⟩) .dead k zs ++ [lnkR D], o.cl m := by
  intro o ho
  simp only [wrU, List.cons_append, List.nil_append, List.mem_cons, List.not_mem_nil, or_false] at ho
  rcases ho with rfl | rfl | rfl | rfl | rfl
  · exact ctR_cl d0 d1 d2 d3 d4 d5 d6 d7 d8 d9 d10 d11 d12 d13 d14 d15 d16 d17 d18 d19 d20 d21 d22 d23 d24 d25 d26 d27 d28 d29 d30 d31 ss js m _ (List.mem_singleton.2 rfl)
  · intro cs hcs; simp only [List.mem_singleton] at hcs; subst hcs; simp [V.cl, V.cl.clAll]; omega
  · trivial
  · exact cl_lift _ _ _ _ _
  · exact lnk_cl _ _
set_option maxHeartbeats 8000000 in
theorem cw_loop (d0 d1 d2 d3 d4 d5 d6 d7 d8 d9 d10 d11 d12 d13 d14 d15 d16 d17 d18 d19 d20 d21 d22 d23 d24 d25 d26 d27 d28 d29 d30 d31 : Nat) (ss : List Sec) (js : List Jst) (hs : ∀ x ∈ ss, SecOk x) (hl : ss.length ≤ 16) (Y0 D0 : List Nat) (hY : Y0.length ≤ 1000) (hD0 : D0.length = 32) (hd0 : ∀ x ∈ D0, x < 256) :
    W Tryd.prog (Gk (some tz) KEYS) 0 (.loop (lp Tryd.f45 0)) (fun e s' => e = .exit 0 ∧ s' = ⟨cwE, wrU (ctR ⟨l32 d0 d1 d2 d3 d4 d5 d6 d7 d8 d9 d10 d11 d12 d13 d14 d15 d16 d17 d18 d19 d20 d21 d22 d23 d24 d25 d26 d27 d28 d29 d30 d31, ss, js⟩) .dead 0 ((Y0 ++ chainN D0 (ss.map secN)).map by8) ++ [lnkR (lnkS D0 (ss.map secN))]⟩) ⟨cwL ss 0, wrU (ctR ⟨l32 d0 d1 d2 d3 d4 d5 d6 d7 d8 d9 d10 d11 d12 d13 d14 d15 d16 d17 d18 d19 d20 d21 d22 d23 d24 d25 d26 d27 d28 d29 d30 d31, ss, js⟩) .dead 0 (Y0.map by8) ++ [lnkR D0]⟩ := by
  refine W.weak (loop_ok (α := Nat × List Nat × List Nat) (fun z => ⟨cwL ss z.1, wrU (ctR ⟨l32 d0 d1 d2 d3 d4 d5 d6 d7 d8 d9 d10 d11 d12 d13 d14 d15 d16 d17 d18 d19 d20 d21 d22 d23 d24 d25 d26 d27 d28 d29 d30 d31, ss, js⟩) .dead 0 (z.2.1.map by8) ++ [lnkR z.2.2]⟩)
    (fun z => z.1 ≤ ss.length ∧ z.2.1.length ≤ 1000 + 5032 * z.1 ∧ z.2.2.length = 32 ∧ (∀ x ∈ z.2.2, x < 256) ∧ z.2.1 ++ chainN z.2.2 ((ss.drop z.1).map secN) = Y0 ++ chainN D0 (ss.map secN) ∧ lnkS z.2.2 ((ss.drop z.1).map secN) = lnkS D0 (ss.map secN)) (fun z => ss.length - z.1) (0, Y0, D0) ⟨Nat.zero_le _, by simp only; omega, hD0, hd0, rfl, rfl⟩ (Le.refl _ _) (fun z hz => wpx_ok (own := own0) _ _ _ ?_))
  obtain ⟨i, Y, D⟩ := z
  obtain ⟨j1, j2, j3, j4, j5, j6⟩ := hz
  simp only at j1 j2 j3 j4 j5 j6
  dsimp only
  generalize Y0 ++ chainN D0 (ss.map secN) = LE at j5 ⊢
  generalize lnkS D0 (ss.map secN) = DE at j6 ⊢
  repeat ((conv => whnf); first | refine Br.t ?_ | refine Br.f ?_ | refine ⟨rfl, ?_⟩)
  conv => whnf
  refine Br.mk (fun g => ?_) (fun g => ?_)
  · have g : i < ss.length := by simp at g; omega
    have edr : ss.drop i = ss[i] :: ss.drop (i + 1) := List.drop_eq_getElem_cons g
    have ex : (ss.map encSec).getD ((i : Int)).toNat [] = encSec (ss[i]) := by rw [Int.toNat_natCast]; exact getD_enc g
    have hx := hs _ (List.getElem_mem g)
    rw [edr, List.map_cons, chainN] at j5
    rw [edr, List.map_cons, lnkS] at j6
    generalize ss[i] = x at ex hx j5 j6
    have cs := (section71 x hx).gmono (G1k KEYS)
    have hbl := secN_len hx
    have cp := put_at (some tz) (ctR ⟨l32 d0 d1 d2 d3 d4 d5 d6 d7 d8 d9 d10 d11 d12 d13 d14 d15 d16 d17 d18 d19 d20 d21 d22 d23 d24 d25 d26 d27 d28 d29 d30 d31, ss, js⟩) .dead [secR x] 0 Y (secN x) D j3 j4 (secN_byte x) (by omega) (by omega)
    have hE := lnk_len D (secN x)
    have hEb := lnk_byte D (secN x)
    generalize lnk D (secN x) = E at cp hE hEb j5 j6
    generalize secN x = b at cs hbl cp j5
    repeat ((conv => whnf); first | refine Br.t ?_ | refine Br.f ?_ | refine ⟨rfl, ?_⟩)
    conv => whnf
    refine ⟨⟨by omega, by simp; omega, by rw [ex]; rfl⟩, ?_⟩
    rw [ex]
    repeat ((conv => whnf); first | refine Br.t ?_ | refine Br.f ?_ | refine ⟨rfl, ?_⟩)
    conv => whnf
    refine CallW.mono (cs.pure _ rfl rfl) ?_
    rintro r st' ⟨rfl, rfl⟩
    repeat ((conv => whnf); first | refine Br.t ?_ | refine Br.f ?_ | refine ⟨rfl, ?_⟩)
    conv => whnf
    refine CallW.mono cp ?_
    rintro r st' ⟨rfl, rfl⟩
    repeat ((conv => whnf); first | refine Br.t ?_ | refine Br.f ?_ | refine ⟨rfl, ?_⟩)
    conv => whnf
    refine ⟨(i + 1, Y ++ b ++ E, E), ⟨by simp only; omega, by simp only [List.length_append]; omega, hE, hEb, by rw [← j5]; simp only [List.append_assoc], j6⟩, by simp only; omega, ?_⟩
    refine Le.back (fun id => if id = 3 then 2 else 0) (fun id hid => by cases hid) (Nat.zero_le _) rfl (wo_cl d0 d1 d2 d3 d4 d5 d6 d7 d8 d9 d10 d11 d12 d13 d14 d15 d16 d17 d18 d19 d20 d21 d22 d23 d24 d25 d26 d27 d28 d29 d30 d31 ss js _ _ _ _ (by simp [wrU])) ?_ ?_
    · simp [leS, cwL, V.up, V.up.upAll]
      exact i64_id (by omega) (by omega)
    · simp [upSt, Ob.up, wrU, lnkR, ctR, encCt, l32, encSec, V.up.upAll, V.up, map_up_lift]
  · have g : i = ss.length := by simp at g; omega
    subst g
    rw [List.drop_length, List.map_nil, chainN, List.append_nil] at j5
    rw [List.drop_length, List.map_nil, lnkS] at j6
    rw [← j5, ← j6]
    repeat ((conv => whnf); first | refine Br.t ?_ | refine Br.f ?_ | refine ⟨rfl, ?_⟩)
    conv => whnf
    exact ⟨_, Le.slE (sl' := cwE) (by simp [leS, cwL, cwE]) rfl, rfl, rfl⟩
end Go.Proofs.YtdbmfnhbgacldaaDoor.Am

/- Contracts: a certificate's bytes, all. -/
namespace Go.Proofs.YtdbmfnhbgacldaaDoor.Am
set_option autoImplicit false
set_option linter.unusedVariables false
set_option linter.unusedSimpArgs false
set_option maxRecDepth 100000
set_option pp.maxSteps 3000
set_option pp.proofs false
theorem chain_len : ∀ (L : List Sec) (D : List Nat), (∀ s ∈ L, SecOk s) → (chainN D (L.map secN)).length ≤ 5032 * L.length
  | [], D, _ => by simp [chainN]
  | x :: L, D, h => by
    have h1 := chain_len L (lnk D (secN x)) (fun s hs => h s (by simp [hs]))
    have h2 := secN_len (h x (by simp))
    have h3 := lnk_len D (secN x)
    simp only [List.map_cons, chainN, List.length_append, List.length_cons]; omega
theorem lnkS_ok : ∀ (L : List (List Nat)) (D : List Nat), D.length = 32 → (∀ x ∈ D, x < 256) → (lnkS D L).length = 32 ∧ ∀ x ∈ lnkS D L, x < 256
  | [], D, h1, h2 => ⟨h1, h2⟩
  | b :: L, D, h1, h2 => lnkS_ok L (lnk D b) (lnk_len D b) (lnk_byte D b)
def ckV (b : List Nat) (c : Nat) : V := .tup [.i (.sl (b.map by8)), .i (.int .i64 c)]
set_option maxHeartbeats 8000000 in
theorem ccwrite45 (c : Ct) (hc : OkT c) : CallW Tryd.prog (Gk (some tz) KEYS) 45 [ctV c] [] (fun r st' => r = ckV (if (chkT c).2 = 0 then certN c else []) (chkT c).2 ∧ st' = []) := by
  refine call_of_bodyF 0 (Nat.le_refl _) Tryd.func45 rfl (fun a w => Tryd.call45 a w) (wpx_ok (own := fun t => t == 19) _ _ _ ?_)
  have ck := check69 c hc hc.s
  obtain ⟨d, ss, js⟩ := c
  obtain ⟨h1, h2, h3, h4, hs⟩ := hc
  simp only at h1 h2 h3 h4 hs
  obtain ⟨d0, d1, d2, d3, d4, d5, d6, d7, d8, d9, d10, d11, d12, d13, d14, d15, d16, d17, d18, d19, d20, d21, d22, d23, d24, d25, d26, d27, d28, d29, d30, d31, hd⟩ := list32 h1
  replace hd : d = l32 d0 d1 d2 d3 d4 d5 d6 d7 d8 d9 d10 d11 d12 d13 d14 d15 d16 d17 d18 d19 d20 d21 d22 d23 d24 d25 d26 d27 d28 d29 d30 d31 := hd
  subst hd
  obtain ⟨⟨pos, code⟩, hr⟩ : ∃ r, r = chkT ⟨l32 d0 d1 d2 d3 d4 d5 d6 d7 d8 d9 d10 d11 d12 d13 d14 d15 d16 d17 d18 d19 d20 d21 d22 d23 d24 d25 d26 d27 d28 d29 d30 d31, ss, js⟩ := ⟨_, rfl⟩
  rw [← hr] at ck ⊢
  repeat ((conv => whnf); first | refine Br.t ?_ | refine Br.f ?_ | refine ⟨rfl, ?_⟩)
  conv => whnf
  refine CallW.mono (ck.glob.pure _ rfl rfl) ?_
  rintro r st' ⟨rfl, rfl⟩
  simp only [chkV]
  repeat ((conv => whnf); first | refine Br.t ?_ | refine Br.f ?_ | refine ⟨rfl, ?_⟩)
  conv => whnf
  refine Br.mk (fun g => ?_) (fun g => ?_)
  · have g : ¬ code = 0 := by simpa using g
    rw [if_neg g]
    repeat ((conv => whnf); first | refine Br.t ?_ | refine Br.f ?_ | refine ⟨rfl, ?_⟩)
    conv => whnf
    refine fin (target := []) rfl (by simp) (by simp) rfl rfl
  have g : code = 0 := by simpa using g
  have ok : CtOk ⟨l32 d0 d1 d2 d3 d4 d5 d6 d7 d8 d9 d10 d11 d12 d13 d14 d15 d16 d17 d18 d19 d20 d21 d22 d23 d24 d25 d26 d27 d28 d29 d30 d31, ss, js⟩ := chkT_zero (by rw [← hr]; exact g)
  rw [if_pos g]
  have hso : ∀ x ∈ ss, SecOk x := fun x hx => secB_ok.1 (ok.s x hx)
  have hsl : ss.length ≤ 16 := ok.n.2
  have hjl : js.length ≤ 16 := ok.m
  have c1 := upO0 (ctR ⟨l32 d0 d1 d2 d3 d4 d5 d6 d7 d8 d9 d10 d11 d12 d13 d14 d15 d16 d17 d18 d19 d20 d21 d22 d23 d24 d25 d26 d27 d28 d29 d30 d31, ss, js⟩) .dead (raw0 (alc.map by8) (bytes_one _) (by decide)) rfl rfl
  have c2 := upL (ctR ⟨l32 d0 d1 d2 d3 d4 d5 d6 d7 d8 d9 d10 d11 d12 d13 d14 d15 d16 d17 d18 d19 d20 d21 d22 d23 d24 d25 d26 d27 d28 d29 d30 d31, ss, js⟩) .dead [] (rawL 0 alc (l32 d0 d1 d2 d3 d4 d5 d6 d7 d8 d9 d10 d11 d12 d13 d14 d15 d16 d17 d18 d19 d20 d21 d22 d23 d24 d25 d26 d27 d28 d29 d30 d31) h1 (by decide) []) rfl rfl
  have pl := putN_len 4 ss.length (by omega)
  have al : alc.length = 4 := rfl
  have c3 := upP (ctR ⟨l32 d0 d1 d2 d3 d4 d5 d6 d7 d8 d9 d10 d11 d12 d13 d14 d15 d16 d17 d18 d19 d20 d21 d22 d23 d24 d25 d26 d27 d28 d29 d30 d31, ss, js⟩) .dead [lnkR (l32 d0 d1 d2 d3 d4 d5 d6 d7 d8 d9 d10 d11 d12 d13 d14 d15 d16 d17 d18 d19 d20 d21 d22 d23 d24 d25 d26 d27 d28 d29 d30 d31)] (num (1 + 0) ((alc ++ l32 d0 d1 d2 d3 d4 d5 d6 d7 d8 d9 d10 d11 d12 d13 d14 d15 d16 d17 d18 d19 d20 d21 d22 d23 d24 d25 d26 d27 d28 d29 d30 d31).map by8) ss.length (by omega) (by rw [List.length_map, List.length_append, h1]; omega)) rfl rfl
  rw [← List.map_append] at c3
  have hY : (alc ++ l32 d0 d1 d2 d3 d4 d5 d6 d7 d8 d9 d10 d11 d12 d13 d14 d15 d16 d17 d18 d19 d20 d21 d22 d23 d24 d25 d26 d27 d28 d29 d30 d31 ++ putN ss.length).length ≤ 1000 := by rw [List.length_append, List.length_append, h1]; omega
  have lo := cw_loop d0 d1 d2 d3 d4 d5 d6 d7 d8 d9 d10 d11 d12 d13 d14 d15 d16 d17 d18 d19 d20 d21 d22 d23 d24 d25 d26 d27 d28 d29 d30 d31 ss js hso hsl (alc ++ l32 d0 d1 d2 d3 d4 d5 d6 d7 d8 d9 d10 d11 d12 d13 d14 d15 d16 d17 d18 d19 d20 d21 d22 d23 d24 d25 d26 d27 d28 d29 d30 d31 ++ putN ss.length) (l32 d0 d1 d2 d3 d4 d5 d6 d7 d8 d9 d10 d11 d12 d13 d14 d15 d16 d17 d18 d19 d20 d21 d22 d23 d24 d25 d26 d27 d28 d29 d30 d31) hY h1 h2
  have hlk := lnkS_ok (ss.map secN) (l32 d0 d1 d2 d3 d4 d5 d6 d7 d8 d9 d10 d11 d12 d13 d14 d15 d16 d17 d18 d19 d20 d21 d22 d23 d24 d25 d26 d27 d28 d29 d30 d31) h1 h2
  have hch := chain_len ss (l32 d0 d1 d2 d3 d4 d5 d6 d7 d8 d9 d10 d11 d12 d13 d14 d15 d16 d17 d18 d19 d20 d21 d22 d23 d24 d25 d26 d27 d28 d29 d30 d31) hso
  have hLE : (alc ++ l32 d0 d1 d2 d3 d4 d5 d6 d7 d8 d9 d10 d11 d12 d13 d14 d15 d16 d17 d18 d19 d20 d21 d22 d23 d24 d25 d26 d27 d28 d29 d30 d31 ++ putN ss.length ++ chainN (l32 d0 d1 d2 d3 d4 d5 d6 d7 d8 d9 d10 d11 d12 d13 d14 d15 d16 d17 d18 d19 d20 d21 d22 d23 d24 d25 d26 d27 d28 d29 d30 d31) (ss.map secN)).length ≤ 100000 := by rw [List.length_append]; omega
  have cj := justs72 js ok.j hjl
  have jb := jstsN_byte js
  have jl : (jstsN js).length ≤ 200 := jstsN_len ok.j hjl
  have hcert : alc ++ l32 d0 d1 d2 d3 d4 d5 d6 d7 d8 d9 d10 d11 d12 d13 d14 d15 d16 d17 d18 d19 d20 d21 d22 d23 d24 d25 d26 d27 d28 d29 d30 d31 ++ putN ss.length ++ chainN (l32 d0 d1 d2 d3 d4 d5 d6 d7 d8 d9 d10 d11 d12 d13 d14 d15 d16 d17 d18 d19 d20 d21 d22 d23 d24 d25 d26 d27 d28 d29 d30 d31) (ss.map secN) ++ jstsN js ++ lnk (lnkS (l32 d0 d1 d2 d3 d4 d5 d6 d7 d8 d9 d10 d11 d12 d13 d14 d15 d16 d17 d18 d19 d20 d21 d22 d23 d24 d25 d26 d27 d28 d29 d30 d31) (ss.map secN)) (jstsN js) = certN ⟨l32 d0 d1 d2 d3 d4 d5 d6 d7 d8 d9 d10 d11 d12 d13 d14 d15 d16 d17 d18 d19 d20 d21 d22 d23 d24 d25 d26 d27 d28 d29 d30 d31, ss, js⟩ := by
    rw [certN_body, bodyN, lastL]; simp only [List.append_assoc]
  generalize alc ++ l32 d0 d1 d2 d3 d4 d5 d6 d7 d8 d9 d10 d11 d12 d13 d14 d15 d16 d17 d18 d19 d20 d21 d22 d23 d24 d25 d26 d27 d28 d29 d30 d31 ++ putN ss.length ++ chainN (l32 d0 d1 d2 d3 d4 d5 d6 d7 d8 d9 d10 d11 d12 d13 d14 d15 d16 d17 d18 d19 d20 d21 d22 d23 d24 d25 d26 d27 d28 d29 d30 d31) (ss.map secN) = Y3 at lo hLE hcert
  generalize lnkS (l32 d0 d1 d2 d3 d4 d5 d6 d7 d8 d9 d10 d11 d12 d13 d14 d15 d16 d17 d18 d19 d20 d21 d22 d23 d24 d25 d26 d27 d28 d29 d30 d31) (ss.map secN) = DE at lo hlk hcert
  have cp := put_at (some tz) (ctR ⟨l32 d0 d1 d2 d3 d4 d5 d6 d7 d8 d9 d10 d11 d12 d13 d14 d15 d16 d17 d18 d19 d20 d21 d22 d23 d24 d25 d26 d27 d28 d29 d30 d31, ss, js⟩) .dead [] 0 Y3 (jstsN js) DE hlk.1 hlk.2 jb (by omega) (by omega)
  rw [hcert] at cp
  have hcl : (certN ⟨l32 d0 d1 d2 d3 d4 d5 d6 d7 d8 d9 d10 d11 d12 d13 d14 d15 d16 d17 d18 d19 d20 d21 d22 d23 d24 d25 d26 d27 d28 d29 d30 d31, ss, js⟩).length ≤ 200000 := by rw [← hcert, List.length_append, List.length_append, lnk_len]; omega
  generalize certN ⟨l32 d0 d1 d2 d3 d4 d5 d6 d7 d8 d9 d10 d11 d12 d13 d14 d15 d16 d17 d18 d19 d20 d21 d22 d23 d24 d25 d26 d27 d28 d29 d30 d31, ss, js⟩ = X at cp hcl ⊢
  generalize lnk DE (jstsN js) = E at cp
  generalize jstsN js = J at cj cp
  have cb := upP (ctR ⟨l32 d0 d1 d2 d3 d4 d5 d6 d7 d8 d9 d10 d11 d12 d13 d14 d15 d16 d17 d18 d19 d20 d21 d22 d23 d24 d25 d26 d27 d28 d29 d30 d31, ss, js⟩) .dead [lnkR E] (bytes (1 + (1 + 0)) (X.map by8) (bytes_one _) (by rw [List.length_map]; omega)) rfl rfl
  repeat ((conv => whnf); first | refine Br.t ?_ | refine Br.f ?_ | refine ⟨rfl, ?_⟩)
  conv => whnf
  refine ⟨⟨rfl, by decide⟩, ?_⟩
  repeat ((conv => whnf); first | refine Br.t ?_ | refine Br.f ?_ | refine ⟨rfl, ?_⟩)
  conv => whnf
  refine CallW.mono c1.glob ?_
  rintro r st' ⟨rfl, rfl⟩
  repeat ((conv => whnf); first | refine Br.t ?_ | refine Br.f ?_ | refine ⟨rfl, ?_⟩)
  conv => whnf
  refine ⟨⟨rfl, rfl, rfl, rfl, rfl⟩, ?_⟩
  repeat ((conv => whnf); first | refine Br.t ?_ | refine Br.f ?_ | refine ⟨rfl, ?_⟩)
  conv => whnf
  refine ⟨⟨rfl, rfl, rfl, by decide, by decide, by decide, by decide, by decide⟩, ?_⟩
  repeat ((conv => whnf); first | refine Br.t ?_ | refine Br.f ?_ | refine ⟨rfl, ?_⟩)
  conv => whnf
  refine CallW.mono c2.glob ?_
  rintro r st' ⟨rfl, rfl⟩
  repeat ((conv => whnf); first | refine Br.t ?_ | refine Br.f ?_ | refine ⟨rfl, ?_⟩)
  conv => whnf
  rw [show (((ss.map encSec).length : Nat) : Int) = ((ss.length : Nat) : Int) by rw [List.length_map]]
  refine CallW.mono c3.glob ?_
  rintro r st' ⟨rfl, rfl⟩
  repeat ((conv => whnf); first | refine Br.t ?_ | refine Br.f ?_ | refine ⟨rfl, ?_⟩)
  conv => whnf
  refine W.le (s' := ⟨cwL ss 0, wrU (ctR ⟨l32 d0 d1 d2 d3 d4 d5 d6 d7 d8 d9 d10 d11 d12 d13 d14 d15 d16 d17 d18 d19 d20 d21 d22 d23 d24 d25 d26 d27 d28 d29 d30 d31, ss, js⟩) .dead 0 ((alc ++ l32 d0 d1 d2 d3 d4 d5 d6 d7 d8 d9 d10 d11 d12 d13 d14 d15 d16 d17 d18 d19 d20 d21 d22 d23 d24 d25 d26 d27 d28 d29 d30 d31 ++ putN ss.length).map by8) ++ [lnkR (l32 d0 d1 d2 d3 d4 d5 d6 d7 d8 d9 d10 d11 d12 d13 d14 d15 d16 d17 d18 d19 d20 d21 d22 d23 d24 d25 d26 d27 d28 d29 d30 d31)]⟩) ((Le.slE (sl' := cwL ss 0) (st' := wrU (ctR ⟨l32 d0 d1 d2 d3 d4 d5 d6 d7 d8 d9 d10 d11 d12 d13 d14 d15 d16 d17 d18 d19 d20 d21 d22 d23 d24 d25 d26 d27 d28 d29 d30 d31, ss, js⟩) .dead 2 ((alc ++ l32 d0 d1 d2 d3 d4 d5 d6 d7 d8 d9 d10 d11 d12 d13 d14 d15 d16 d17 d18 d19 d20 d21 d22 d23 d24 d25 d26 d27 d28 d29 d30 d31 ++ putN ss.length).map by8) ++ [lnkR (l32 d0 d1 d2 d3 d4 d5 d6 d7 d8 d9 d10 d11 d12 d13 d14 d15 d16 d17 d18 d19 d20 d21 d22 d23 d24 d25 d26 d27 d28 d29 d30 d31)]) (by repeat ((conv => whnf); first | exact trivial | refine ⟨.inl rfl, ?_⟩ | refine ⟨.inr rfl, ?_⟩ | refine ⟨.inr (by simp), ?_⟩)) rfl).trans (Le.down (fun id => if id = 3 then 2 else 0) (fun id hid => by cases hid) ?_ ?_)) (W.mono lo ?_)
  · simp [leS, cwL, V.up, V.up.upAll]
  · simp [upSt, Ob.up, wrU, lnkR, ctR, encCt, l32, encSec, V.up.upAll, V.up, map_up_lift]
  rintro e s ⟨rfl, rfl⟩
  repeat ((conv => whnf); first | refine Br.t ?_ | refine Br.f ?_ | refine ⟨rfl, ?_⟩)
  conv => whnf
  refine CallW.mono (cj.glob.pure _ rfl rfl) ?_
  rintro r st' ⟨rfl, rfl⟩
  repeat ((conv => whnf); first | refine Br.t ?_ | refine Br.f ?_ | refine ⟨rfl, ?_⟩)
  conv => whnf
  refine CallW.mono cp ?_
  rintro r st' ⟨rfl, rfl⟩
  repeat ((conv => whnf); first | refine Br.t ?_ | refine Br.f ?_ | refine ⟨rfl, ?_⟩)
  conv => whnf
  refine CallW.mono cb.glob ?_
  rintro r st' ⟨rfl, rfl⟩
  repeat ((conv => whnf); first | refine Br.t ?_ | refine Br.f ?_ | refine ⟨rfl, ?_⟩)
  conv => whnf
  rw [g]
  refine fin (target := []) rfl (by simp) (by simp) rfl rfl
end Go.Proofs.YtdbmfnhbgacldaaDoor.Am

/- Contracts: a section's bytes, the document's. -/
namespace Go.Proofs.YtdbmfnhbgacldaaDoor.Am
set_option autoImplicit false
set_option linter.unusedVariables false
set_option linter.unusedSimpArgs false
set_option maxRecDepth 100000
set_option pp.maxSteps 3000
set_option pp.proofs false
theorem set21r (m : Nat) (hm : m < 4294967296) : CallW Tryd.prog G0 21 [.i (.int .u32 m)] [] (fun r st' => r = .ref 0 1 0 (setN m).length ∧ st' = [bR 1 (setN m)]) := by
  refine call_of_body Tryd.func21 rfl (fun a w => Tryd.call21 a w) (wpx_ok (own := own0) _ _ _ ?_)
  have hl := ids_length m
  have h32 := ids_32 m
  have pl := putN_len 4 (ids m).length (by omega)
  repeat ((conv => whnf); first | refine Br.t ?_ | refine Br.f ?_ | refine ⟨rfl, ?_⟩)
  conv => whnf
  refine CallW.mono ((list54 m hm).pure _ rfl rfl) ?_
  rintro r st' ⟨rfl, rfl⟩
  repeat ((conv => whnf); first | refine Br.t ?_ | refine Br.f ?_ | refine ⟨rfl, ?_⟩)
  conv => whnf
  have c0 : CallW Tryd.prog G0 17 [.i (.int .i64 (((ids m).map elI).length : Nat))] [] (fun r st' => r = .ref 0 1 0 (putN (ids m).length).length ∧ st' = [.row 1 1 false (lift ((putN (ids m).length).map by8))]) := by
    rw [List.length_map]
    exact put17r _ (by omega)
  refine CallW.mono c0 ?_
  rintro r st' ⟨rfl, rfl⟩
  repeat ((conv => whnf); first | refine Br.t ?_ | refine Br.f ?_ | refine ⟨rfl, ?_⟩)
  conv => whnf
  refine loop_ok (α := Nat) (fun j => ⟨mkS 25 [(2, .nils), (3, .i (.sl ((ids m).map elI))), (4, .ref 0 1 0 (putN (ids m).length ++ ((ids m).take j).flatMap putN).length), (5, .i (.int .i64 j))], [.row 1 1 false (lift ((putN (ids m).length ++ ((ids m).take j).flatMap putN).map by8))]⟩)
    (fun j => j ≤ (ids m).length) (fun j => (ids m).length - j) 0 (Nat.zero_le _)
    ?_ (fun j hj => wpx_ok (own := own0) _ _ _ ?_)
  · rw [List.take_zero, List.flatMap_nil, List.append_nil]
    exact Le.slots (by simp [leS, mkS])
  have hfl := flat_len (l := (ids m).take j) (fun i hi => by have := h32 i (List.mem_of_mem_take hi); omega)
  have htl : ((ids m).take j).length ≤ 32 := by rw [List.length_take]; omega
  have hal : (putN (ids m).length ++ ((ids m).take j).flatMap putN).length ≤ 40 := by rw [List.length_append, hfl]; omega
  repeat ((conv => whnf); first | refine Br.t ?_ | refine Br.f ?_ | refine ⟨rfl, ?_⟩)
  conv => whnf
  refine Br.mk (fun g => ?_) (fun g => ?_)
  · have g : j < (ids m).length := by simpa using g
    obtain ⟨x, hx⟩ : ∃ x, x = (ids m)[j] := ⟨_, rfl⟩
    have ex : ((ids m).map elI).getD (j : Int).toNat [] = elI x := by rw [hx]; exact getD_enc g
    have et : (ids m).take (j + 1) = (ids m).take j ++ [x] := by rw [hx]; simp
    have hx32 : x < 32 := h32 x (hx ▸ List.getElem_mem g)
    have hpx : putN x = [x] := by rw [putN, dif_pos (by omega)]
    repeat ((conv => whnf); first | refine Br.t ?_ | refine Br.f ?_ | refine ⟨rfl, ?_⟩)
    conv => whnf
    rw [ex]
    refine ⟨⟨by omega, by simp; omega, rfl⟩, ?_⟩
    repeat ((conv => whnf); first | refine Br.t ?_ | refine Br.f ?_ | refine ⟨rfl, ?_⟩)
    conv => whnf
    refine CallW.mono ((put17 x (by omega)).pure _ rfl rfl) ?_
    rintro r st' ⟨rfl, rfl⟩
    repeat ((conv => whnf); first | refine Br.t ?_ | refine Br.f ?_ | refine ⟨rfl, ?_⟩)
    conv => whnf
    refine ⟨apL (by simp [by8]) rfl 1 rfl (by simp [lift]) (by rw [hpx, List.length_map]; simp only [List.length_singleton]; omega) (len_mx (by rw [hpx, List.length_map]; simp only [List.length_singleton]; omega)), ?_⟩
    repeat ((conv => whnf); first | refine Br.t ?_ | refine Br.f ?_ | refine ⟨rfl, ?_⟩)
    conv => whnf
    have e2 : putN (ids m).length ++ ((ids m).take (j + 1)).flatMap putN = putN (ids m).length ++ ((ids m).take j).flatMap putN ++ putN x := by
      rw [et, List.flatMap_append, show [x].flatMap putN = putN x by simp, List.append_assoc]
    refine ⟨j + 1, by omega, by omega, Le.down (fun id => if id = 0 then 1 else 0) (by intro id hid; simp at hid) ?_ ?_⟩
    · rw [e2]
      simp [leS, mkS, V.up, lift]
      first | exact i64_id (by omega) (by omega) | exact ⟨by omega, i64_id (by omega) (by omega)⟩
    · simp only [upSt, Ob.up, map_up_lift]
      rw [e2]
      simp only [List.map_append, lift_app]
      rfl
  · have g : j = (ids m).length := by simp at g; omega
    subst g
    repeat ((conv => whnf); first | refine Br.t ?_ | refine Br.f ?_ | refine ⟨rfl, ?_⟩)
    conv => whnf
    rw [List.take_length]
    exact ⟨rfl, rfl⟩
def rs0 (n i : Nat) : List V := [.undef, .ptr 0 0 0 0, .undef, .ref 1 1 0 n, .i (.int .i64 i)] ++ List.replicate 56 .undef
def rs1 (n i : Nat) : List V := [.undef, .ptr 0 0 0 0, .undef, .ref 1 1 0 n, .undef, .i (.int .i64 i)] ++ List.replicate 55 .undef
def rsE (n : Nat) : List V := [.undef, .ptr 0 0 0 0, .undef, .ref 1 1 0 n] ++ List.replicate 57 .undef
set_option maxHeartbeats 8000000 in
theorem rs_loop0 (s : Sec) (hm : ∀ m ∈ s.2.2.1, m < 4294967296) (hl : s.2.2.1.length ≤ 64) (zs : List Nat) (hz : zs.length ≤ 100000) :
    W Tryd.prog G0 0 (.loop (lp Tryd.f75 0)) (fun e s' => e = .exit 0 ∧ s' = ⟨rsE (zs ++ s.2.2.1.flatMap setN).length, [secR s, bR 1 (zs ++ s.2.2.1.flatMap setN)]⟩) ⟨rs0 zs.length 0, [secR s, bR 1 zs]⟩ := by
  refine W.weak (loop_ok (α := Nat × List Nat) (fun z => ⟨rs0 z.2.length z.1, [secR s, bR 1 z.2]⟩) (fun z => z.1 ≤ s.2.2.1.length ∧ z.2.length ≤ 100000 + 37 * z.1 ∧ z.2 ++ (s.2.2.1.drop z.1).flatMap setN = zs ++ s.2.2.1.flatMap setN) (fun z => s.2.2.1.length - z.1) (0, zs) ⟨Nat.zero_le _, by simp only; omega, rfl⟩ (Le.refl _ _) (fun z hz => wpx_ok (own := own0) _ _ _ ?_))
  obtain ⟨i, X⟩ := z
  obtain ⟨j1, j2, j3⟩ := hz
  simp only at j1 j2 j3
  dsimp only
  generalize zs ++ s.2.2.1.flatMap setN = LE at j3 ⊢
  repeat ((conv => whnf); first | refine Br.t ?_ | refine Br.f ?_ | refine ⟨rfl, ?_⟩)
  conv => whnf
  refine Br.mk (fun g => ?_) (fun g => ?_)
  · have g : i < s.2.2.1.length := by simp at g; omega
    have edr : s.2.2.1.drop i = s.2.2.1[i] :: s.2.2.1.drop (i + 1) := List.drop_eq_getElem_cons g
    have ex : (s.2.2.1.map w4).getD ((i : Int)).toNat [] = w4 (s.2.2.1[i]) := by rw [Int.toNat_natCast]; exact getD_enc g
    have hx := hm _ (List.getElem_mem g)
    rw [edr, List.flatMap_cons] at j3
    generalize s.2.2.1[i] = x at ex hx j3
    have hsl : (setN x).length ≤ 37 := setN_len
    have cs := set21 x hx
    have j3' : (X ++ setN x) ++ (s.2.2.1.drop (i + 1)).flatMap setN = LE := by rw [List.append_assoc]; exact j3
    generalize setN x = b at cs hsl j3'
    repeat ((conv => whnf); first | refine Br.t ?_ | refine Br.f ?_ | refine ⟨rfl, ?_⟩)
    conv => whnf
    refine ⟨⟨by omega, by simp; omega, by rw [ex]; rfl⟩, ?_⟩
    rw [ex]
    repeat ((conv => whnf); first | refine Br.t ?_ | refine Br.f ?_ | refine ⟨rfl, ?_⟩)
    conv => whnf
    refine CallW.mono (cs.pure _ rfl rfl) ?_
    rintro r st' ⟨rfl, rfl⟩
    repeat ((conv => whnf); first | refine Br.t ?_ | refine Br.f ?_ | refine ⟨rfl, ?_⟩)
    conv => whnf
    refine ⟨⟨bytes_one _, by simp [lift], by show (X.length + (lift (b.map by8)).length) * 1 ≤ _; simp [lift]; omega, len_mx (by simp [lift]; omega)⟩, ?_⟩
    repeat ((conv => whnf); first | refine Br.t ?_ | refine Br.f ?_ | refine ⟨rfl, ?_⟩)
    conv => whnf
    refine ⟨(i + 1, X ++ b), ⟨by simp only; omega, by simp only [List.length_append]; omega, j3'⟩, by simp only; omega, ?_⟩
    refine Le.down (fun id => if id = 1 then 1 else 0) (fun id hid => by cases hid) ?_ ?_
    · simp [leS, rs0, V.up, lift]
      exact i64_id (by omega) (by omega)
    · simp only [upSt, Ob.up, map_up_lift, bR, secR, encSec, List.map_cons, List.map_nil, V.up.upAll, V.up, List.map_append, lift_app]
      rfl
  · have g : i = s.2.2.1.length := by simp at g; omega
    subst g
    rw [List.drop_length, List.flatMap_nil, List.append_nil] at j3
    rw [← j3]
    repeat ((conv => whnf); first | refine Br.t ?_ | refine Br.f ?_ | refine ⟨rfl, ?_⟩)
    conv => whnf
    exact ⟨_, Le.slE (sl' := rsE X.length) (by simp [leS, rs0, rsE]) rfl, rfl, rfl⟩
set_option maxHeartbeats 8000000 in
theorem rs_loop1 (s : Sec) (hm : ∀ m ∈ s.2.2.2.2.2, m < 4294967296) (hl : s.2.2.2.2.2.length ≤ 64) (zs : List Nat) (hz : zs.length ≤ 100000) :
    W Tryd.prog G0 0 (.loop (lp Tryd.f75 1)) (fun e s' => e = .exit 2 ∧ s' = ⟨rsE (zs ++ s.2.2.2.2.2.flatMap setN).length, [secR s, bR 1 (zs ++ s.2.2.2.2.2.flatMap setN)]⟩) ⟨rs1 zs.length 0, [secR s, bR 1 zs]⟩ := by
  refine W.weak (loop_ok (α := Nat × List Nat) (fun z => ⟨rs1 z.2.length z.1, [secR s, bR 1 z.2]⟩) (fun z => z.1 ≤ s.2.2.2.2.2.length ∧ z.2.length ≤ 100000 + 37 * z.1 ∧ z.2 ++ (s.2.2.2.2.2.drop z.1).flatMap setN = zs ++ s.2.2.2.2.2.flatMap setN) (fun z => s.2.2.2.2.2.length - z.1) (0, zs) ⟨Nat.zero_le _, by simp only; omega, rfl⟩ (Le.refl _ _) (fun z hz => wpx_ok (own := own0) _ _ _ ?_))
  obtain ⟨i, X⟩ := z
  obtain ⟨j1, j2, j3⟩ := hz
  simp only at j1 j2 j3
  dsimp only
  generalize zs ++ s.2.2.2.2.2.flatMap setN = LE at j3 ⊢
  repeat ((conv => whnf); first | refine Br.t ?_ | refine Br.f ?_ | refine ⟨rfl, ?_⟩)
  conv => whnf
  refine Br.mk (fun g => ?_) (fun g => ?_)
  · have g : i < s.2.2.2.2.2.length := by simp at g; omega
    have edr : s.2.2.2.2.2.drop i = s.2.2.2.2.2[i] :: s.2.2.2.2.2.drop (i + 1) := List.drop_eq_getElem_cons g
    have ex : (s.2.2.2.2.2.map w4).getD ((i : Int)).toNat [] = w4 (s.2.2.2.2.2[i]) := by rw [Int.toNat_natCast]; exact getD_enc g
    have hx := hm _ (List.getElem_mem g)
    rw [edr, List.flatMap_cons] at j3
    generalize s.2.2.2.2.2[i] = x at ex hx j3
    have hsl : (setN x).length ≤ 37 := setN_len
    have cs := set21 x hx
    have j3' : (X ++ setN x) ++ (s.2.2.2.2.2.drop (i + 1)).flatMap setN = LE := by rw [List.append_assoc]; exact j3
    generalize setN x = b at cs hsl j3'
    repeat ((conv => whnf); first | refine Br.t ?_ | refine Br.f ?_ | refine ⟨rfl, ?_⟩)
    conv => whnf
    refine ⟨⟨by omega, by simp; omega, by rw [ex]; rfl⟩, ?_⟩
    rw [ex]
    repeat ((conv => whnf); first | refine Br.t ?_ | refine Br.f ?_ | refine ⟨rfl, ?_⟩)
    conv => whnf
    refine CallW.mono (cs.pure _ rfl rfl) ?_
    rintro r st' ⟨rfl, rfl⟩
    repeat ((conv => whnf); first | refine Br.t ?_ | refine Br.f ?_ | refine ⟨rfl, ?_⟩)
    conv => whnf
    refine ⟨⟨bytes_one _, by simp [lift], by show (X.length + (lift (b.map by8)).length) * 1 ≤ _; simp [lift]; omega, len_mx (by simp [lift]; omega)⟩, ?_⟩
    repeat ((conv => whnf); first | refine Br.t ?_ | refine Br.f ?_ | refine ⟨rfl, ?_⟩)
    conv => whnf
    refine ⟨(i + 1, X ++ b), ⟨by simp only; omega, by simp only [List.length_append]; omega, j3'⟩, by simp only; omega, ?_⟩
    refine Le.down (fun id => if id = 1 then 1 else 0) (fun id hid => by cases hid) ?_ ?_
    · simp [leS, rs1, V.up, lift]
      exact i64_id (by omega) (by omega)
    · simp only [upSt, Ob.up, map_up_lift, bR, secR, encSec, List.map_cons, List.map_nil, V.up.upAll, V.up, List.map_append, lift_app]
      rfl
  · have g : i = s.2.2.2.2.2.length := by simp at g; omega
    subst g
    rw [List.drop_length, List.flatMap_nil, List.append_nil] at j3
    rw [← j3]
    repeat ((conv => whnf); first | refine Br.t ?_ | refine Br.f ?_ | refine ⟨rfl, ?_⟩)
    conv => whnf
    exact ⟨_, Le.slE (sl' := rsE X.length) (by simp [leS, rs1, rsE]) rfl, rfl, rfl⟩
set_option maxHeartbeats 8000000 in
theorem section75 (s : Sec) (hs : SecOk s) : CallW Tryd.prog G0 75 [secV s] [] (fun r st' => r = .i (.sl ((secN s).map by8)) ∧ st' = []) := by
  refine call_of_bodyF 0 (Nat.le_refl _) Tryd.func75 rfl (fun a w => Tryd.call75 a w) (wpx_ok (own := own0) _ _ _ ?_)
  have hok := secO hs
  have hH : s.2.2.1.length ≤ 64 := hs.n.2
  have hL : s.2.2.2.2.2.length ≤ 64 := by have := hs.l; omega
  obtain ⟨h1, h2, ⟨h3, h4⟩, h5, h6, h7, h8⟩ := hok
  have c1 := CallW.fresh [secR s] (set21r s.1 h1) rfl
  have c2 := set21 s.2.1 h2
  have c3 := set21 s.2.2.2.1 h5
  have c4 := set21 s.2.2.2.2.1 h6
  have c5 := put30 s.2.2.1.length (by omega)
  have q1 : (setN s.1).length ≤ 37 := setN_len
  have q2 : (setN s.2.1).length ≤ 37 := setN_len
  have q3 : (setN s.2.2.2.1).length ≤ 37 := setN_len
  have q4 : (setN s.2.2.2.2.1).length ≤ 37 := setN_len
  have q5 := putN_len 4 s.2.2.1.length (by omega)
  have hX : secN s = setN s.1 ++ setN s.2.1 ++ setN s.2.2.2.1 ++ setN s.2.2.2.2.1 ++ putN s.2.2.1.length ++ s.2.2.1.flatMap setN ++ s.2.2.2.2.2.flatMap setN := by
    rw [secN]; simp only [List.append_assoc]
  rw [hX]
  generalize setN s.1 = b1 at c1 q1 ⊢
  generalize setN s.2.1 = b2 at c2 q2 ⊢
  generalize setN s.2.2.2.1 = b3 at c3 q3 ⊢
  generalize setN s.2.2.2.2.1 = b4 at c4 q4 ⊢
  have l0 := rs_loop0 s h4 hH (b1 ++ b2 ++ b3 ++ b4 ++ putN s.2.2.1.length) (by simp only [List.length_append]; omega)
  have f1 := flat37 s.2.2.1
  have l1 := rs_loop1 s h8 hL (b1 ++ b2 ++ b3 ++ b4 ++ putN s.2.2.1.length ++ s.2.2.1.flatMap setN) (by simp only [List.length_append]; omega)
  generalize putN s.2.2.1.length = b5 at c5 q5 l0 l1 ⊢
  generalize b1 ++ b2 ++ b3 ++ b4 ++ b5 ++ s.2.2.1.flatMap setN ++ s.2.2.2.2.2.flatMap setN = X2 at l1 ⊢
  generalize b1 ++ b2 ++ b3 ++ b4 ++ b5 ++ s.2.2.1.flatMap setN = X1 at l0 l1
  repeat ((conv => whnf); first | refine Br.t ?_ | refine Br.f ?_ | refine ⟨rfl, ?_⟩)
  conv => whnf
  refine CallW.mono c1 ?_
  rintro r st' ⟨rfl, rfl⟩
  rw [show [bR 1 b1].map (Ob.ren fun i => ([secR s] : List Ob).length + i) = [bR 1 b1] by simp only [List.map_cons, List.map_nil, bR, ren_lift]]
  repeat ((conv => whnf); first | refine Br.t ?_ | refine Br.f ?_ | refine ⟨rfl, ?_⟩)
  conv => whnf
  refine CallW.mono (c2.pure _ rfl rfl) ?_
  rintro r st' ⟨rfl, rfl⟩
  repeat ((conv => whnf); first | refine Br.t ?_ | refine Br.f ?_ | refine ⟨rfl, ?_⟩)
  conv => whnf
  refine ⟨⟨bytes_one _, by simp [lift] <;> omega, by show (_ + _) * 1 ≤ _; simp [lift]; omega, len_mx (by simp [lift]; omega)⟩, ?_⟩
  repeat ((conv => whnf); first | refine Br.t ?_ | refine Br.f ?_ | refine ⟨rfl, ?_⟩)
  conv => whnf
  refine CallW.mono (c3.pure _ rfl rfl) ?_
  rintro r st' ⟨rfl, rfl⟩
  repeat ((conv => whnf); first | refine Br.t ?_ | refine Br.f ?_ | refine ⟨rfl, ?_⟩)
  conv => whnf
  refine ⟨⟨bytes_one _, by simp [lift] <;> omega, by show (_ + _) * 1 ≤ _; simp [lift]; omega, len_mx (by simp [lift]; omega)⟩, ?_⟩
  repeat ((conv => whnf); first | refine Br.t ?_ | refine Br.f ?_ | refine ⟨rfl, ?_⟩)
  conv => whnf
  refine CallW.mono (c4.pure _ rfl rfl) ?_
  rintro r st' ⟨rfl, rfl⟩
  repeat ((conv => whnf); first | refine Br.t ?_ | refine Br.f ?_ | refine ⟨rfl, ?_⟩)
  conv => whnf
  refine ⟨⟨bytes_one _, by simp [lift] <;> omega, by show (_ + _) * 1 ≤ _; simp [lift]; omega, len_mx (by simp [lift]; omega)⟩, ?_⟩
  repeat ((conv => whnf); first | refine Br.t ?_ | refine Br.f ?_ | refine ⟨rfl, ?_⟩)
  conv => whnf
  rw [show (((s.2.2.1.map w4).length : Nat) : Int) = ((s.2.2.1.length : Nat) : Int) by rw [List.length_map]]
  refine CallW.mono (c5.pure _ rfl rfl) ?_
  rintro r st' ⟨rfl, rfl⟩
  repeat ((conv => whnf); first | refine Br.t ?_ | refine Br.f ?_ | refine ⟨rfl, ?_⟩)
  conv => whnf
  refine ⟨⟨bytes_one _, by simp [lift] <;> omega, by show (_ + _) * 1 ≤ _; simp [lift]; omega, len_mx (by simp [lift]; omega)⟩, ?_⟩
  repeat ((conv => whnf); first | refine Br.t ?_ | refine Br.f ?_ | refine ⟨rfl, ?_⟩)
  conv => whnf
  refine W.le (s' := ⟨rs0 (b1 ++ b2 ++ b3 ++ b4 ++ b5).length 0, [secR s, bR 1 (b1 ++ b2 ++ b3 ++ b4 ++ b5)]⟩) (Le.down (fun id => if id = 1 then 4 else 0) (fun id hid => by cases hid) ?_ ?_) (W.mono l0 ?_)
  · simp [leS, rs0, V.up, lift]
    try omega
  · simp only [upSt, Ob.up, map_up_lift, bR, secR, encSec, List.map_cons, List.map_nil, V.up.upAll, V.up, List.map_append, lift_app]
    rfl
  rintro e s' ⟨rfl, rfl⟩
  repeat ((conv => whnf); first | refine Br.t ?_ | refine Br.f ?_ | refine ⟨rfl, ?_⟩)
  conv => whnf
  refine W.le (s' := ⟨rs1 X1.length 0, [secR s, bR 1 X1]⟩) (Le.slE (by simp [leS, rs1, rsE]) rfl) (W.mono l1 ?_)
  rintro e s' ⟨rfl, rfl⟩
  repeat ((conv => whnf); first | refine Br.t ?_ | refine Br.f ?_ | refine ⟨rfl, ?_⟩)
  conv => whnf
  refine ⟨Nat.zero_le _, rfl, X2.map by8, rfl, Nat.zero_le _, rfl, by simp, ?_, rfl⟩
  rw [List.drop_zero, List.take_of_length_le (by simp)]
end Go.Proofs.YtdbmfnhbgacldaaDoor.Am

/- Contracts: a link, the document's. -/
namespace Go.Proofs.YtdbmfnhbgacldaaDoor.Am
set_option autoImplicit false
set_option linter.unusedVariables false
set_option linter.unusedSimpArgs false
set_option maxRecDepth 100000
set_option pp.maxSteps 3000
set_option pp.proofs false
set_option maxHeartbeats 8000000 in
theorem link76 (D b : List Nat) (hD : D.length = 32) (hd : ∀ x ∈ D, x < 256) (hb : ∀ x ∈ b, x < 256) (hl : b.length ≤ 100000) : CallW Tryd.prog G0 76 [dArr D, .i (.sl (b.map by8))] [] (fun r st' => r = dArr (lnk D b) ∧ st' = []) := by
  refine call_of_bodyF 0 (Nat.le_refl _) Tryd.func76 rfl (fun a w => Tryd.call76 a w) (W.seq (wpx_ok (own := own0) _ _ _ ?_))
  have hdb : ∀ x ∈ D ++ b, x < 256 := fun x hx => by
    rcases List.mem_append.1 hx with h | h
    · exact hd x h
    · exact hb x h
  have co := rfof_ok (D ++ b) hdb (by rw [List.length_append]; omega)
  have hE : (lnk D b).length = 32 := lnk_len D b
  change CallW _ _ _ _ _ (fun r st' => r = dArr (lnk D b) ∧ _) at co
  generalize lnk D b = E at co hE ⊢
  obtain ⟨d0, d1, d2, d3, d4, d5, d6, d7, d8, d9, d10, d11, d12, d13, d14, d15, d16, d17, d18, d19, d20, d21, d22, d23, d24, d25, d26, d27, d28, d29, d30, d31, rfl⟩ := list32 hD
  obtain ⟨e0, e1, e2, e3, e4, e5, e6, e7, e8, e9, e10, e11, e12, e13, e14, e15, e16, e17, e18, e19, e20, e21, e22, e23, e24, e25, e26, e27, e28, e29, e30, e31, rfl⟩ := list32 hE
  repeat ((conv => whnf); first | refine Br.t ?_ | refine Br.f ?_ | refine ⟨rfl, ?_⟩)
  conv => whnf
  refine W.le (Le.flat (n := 0) 2 0 (Nat.zero_le _) rfl rfl (by simp)) (wpx_ok (own := fun t => t == 5) _ _ _ ?_)
  repeat ((conv => whnf); first | refine Br.t ?_ | refine Br.f ?_ | refine ⟨rfl, ?_⟩)
  conv => whnf
  refine ⟨⟨rfl, rfl, rfl, by decide, by decide, by decide, by decide, by decide⟩, ?_⟩
  repeat ((conv => whnf); first | refine Br.t ?_ | refine Br.f ?_ | refine ⟨rfl, ?_⟩)
  conv => whnf
  refine ⟨apR (es := ([d0, d1, d2, d3, d4, d5, d6, d7, d8, d9, d10, d11, d12, d13, d14, d15, d16, d17, d18, d19, d20, d21, d22, d23, d24, d25, d26, d27, d28, d29, d30, d31] : List Nat).map by8) rfl rfl 1 rfl (by simp) (len_mx (by simp)), ?_⟩
  repeat ((conv => whnf); first | refine Br.t ?_ | refine Br.f ?_ | refine ⟨rfl, ?_⟩)
  conv => whnf
  refine ⟨⟨bytes_one _, by simp [lift], by show (_ + _) * 1 ≤ _; simp [lift]; omega, len_mx (by simp [lift]; omega)⟩, ?_⟩
  repeat ((conv => whnf); first | refine Br.t ?_ | refine Br.f ?_ | refine ⟨rfl, ?_⟩)
  conv => whnf
  refine CallW.mono (CallW.ref1 (id := 3) (ver := 3) (sz := 1) (ro := false) (is := (([d0, d1, d2, d3, d4, d5, d6, d7, d8, d9, d10, d11, d12, d13, d14, d15, d16, d17, d18, d19, d20, d21, d22, d23, d24, d25, d26, d27, d28, d29, d30, d31] : List Nat) ++ b).map by8) _ co (by rw [List.map_append, lift_app]; rfl) (by simp [lift]; omega) (cl_b 0 _) rfl) ?_
  rintro r st' ⟨rfl, rfl⟩
  repeat ((conv => whnf); first | refine Br.t ?_ | refine Br.f ?_ | refine ⟨rfl, ?_⟩)
  conv => whnf
  refine ⟨⟨rfl, rfl, rfl, rfl, rfl⟩, ?_⟩
  repeat ((conv => whnf); first | refine Br.t ?_ | refine Br.f ?_ | refine ⟨rfl, ?_⟩)
  conv => whnf
  refine ⟨⟨rfl, rfl, rfl⟩, ?_⟩
  repeat ((conv => whnf); first | refine Br.t ?_ | refine Br.f ?_ | refine ⟨rfl, ?_⟩)
  conv => whnf
  refine fin (target := []) rfl (by simp) (by simp) rfl rfl
end Go.Proofs.YtdbmfnhbgacldaaDoor.Am

/- Contracts: a certificate's bytes, the document's: the loops. -/
namespace Go.Proofs.YtdbmfnhbgacldaaDoor.Am
set_option autoImplicit false
set_option linter.unusedVariables false
set_option linter.unusedSimpArgs false
set_option maxRecDepth 100000
set_option pp.maxSteps 3000
set_option pp.proofs false
def yw0 (n i : Nat) : List V := [.undef, .ptr 3 0 0 0, .undef, .ref 2 1 0 n, .ptr 4 1 0 0, .i (.int .i64 i)] ++ List.replicate 83 .undef
def yw3 (n i : Nat) : List V := [.undef, .ptr 3 0 0 0, .undef, .ref 2 3 0 n, .ptr 4 1 0 0, .i (.int .i64 i)] ++ List.replicate 83 .undef
def ywE (n : Nat) : List V := [.undef, .ptr 3 0 0 0, .undef, .ref 2 1 0 n, .ptr 4 1 0 0] ++ List.replicate 84 .undef
def yw1 (n m i : Nat) : List V := [.undef, .ptr 3 0 0 0, .undef, .ref 2 1 0 n, .ptr 4 1 0 0, .undef, .undef, .ref 5 1 0 m, .i (.int .i64 i)] ++ List.replicate 80 .undef
def yw2 (n : Nat) (x7 : V) : List V := [.undef, .ptr 3 0 0 0, .undef, .ref 2 1 0 n, .ptr 4 1 0 0, .undef, .undef, x7] ++ List.replicate 81 .undef
def ywB (c : Ct) (Y D : List Nat) : List Ob := [.dead, .dead, bR 1 Y, ctR c, lnkR D]
theorem ywB_cl (d0 d1 d2 d3 d4 d5 d6 d7 d8 d9 d10 d11 d12 d13 d14 d15 d16 d17 d18 d19 d20 d21 d22 d23 d24 d25 d26 d27 d28 d29 d30 d31 : Nat) (ss : List Sec) (js : List Jst) (Y D : List Nat) (m : Nat) : ∀ o ∈ ywB ⟨l32 d0 d1 d2 d3 d4 d5 d6 d7 d8 d9 d10 d11 d12 d13 d14 d15 d16 d17 d18 d19 d20 d21 d22 d23 d24 d25 d26 d27 d28 d29 d30 d31, ss, js⟩ Y D, o.cl m := by
  intro o ho
  simp only [ywB, List.mem_cons, List.not_mem_nil, or_false] at ho
  rcases ho with rfl | rfl | rfl | rfl | rfl
  · trivial
  · trivial
  · exact bR_cl _ _ _
  · exact ctR_cl d0 d1 d2 d3 d4 d5 d6 d7 d8 d9 d10 d11 d12 d13 d14 d15 d16 d17 d18 d19 d20 d21 d22 d23 d24 d25 d26 d27 d28 d29 d30 d31 ss js m _ (List.mem_singleton.2 rfl)
  · exact lnk_cl _ _
set_option maxHeartbeats 8000000 in
theorem yw_loop (d0 d1 d2 d3 d4 d5 d6 d7 d8 d9 d10 d11 d12 d13 d14 d15 d16 d17 d18 d19 d20 d21 d22 d23 d24 d25 d26 d27 d28 d29 d30 d31 : Nat) (ss : List Sec) (js : List Jst) (hs : ∀ x ∈ ss, SecOk x) (hl : ss.length ≤ 16) (Y0 D0 : List Nat) (hY : Y0.length ≤ 1000) (hD0 : D0.length = 32) (hd0 : ∀ x ∈ D0, x < 256) :
    W Tryd.prog G0 0 (.loop (lp Tryd.f47 0)) (fun e s' => e = .exit 0 ∧ s' = ⟨ywE (Y0 ++ chainN D0 (ss.map secN)).length, ywB ⟨l32 d0 d1 d2 d3 d4 d5 d6 d7 d8 d9 d10 d11 d12 d13 d14 d15 d16 d17 d18 d19 d20 d21 d22 d23 d24 d25 d26 d27 d28 d29 d30 d31, ss, js⟩ (Y0 ++ chainN D0 (ss.map secN)) (lnkS D0 (ss.map secN))⟩) ⟨yw0 Y0.length 0, ywB ⟨l32 d0 d1 d2 d3 d4 d5 d6 d7 d8 d9 d10 d11 d12 d13 d14 d15 d16 d17 d18 d19 d20 d21 d22 d23 d24 d25 d26 d27 d28 d29 d30 d31, ss, js⟩ Y0 D0⟩ := by
  refine W.weak (loop_ok (α := Nat × List Nat × List Nat) (fun z => ⟨yw0 z.2.1.length z.1, ywB ⟨l32 d0 d1 d2 d3 d4 d5 d6 d7 d8 d9 d10 d11 d12 d13 d14 d15 d16 d17 d18 d19 d20 d21 d22 d23 d24 d25 d26 d27 d28 d29 d30 d31, ss, js⟩ z.2.1 z.2.2⟩)
    (fun z => z.1 ≤ ss.length ∧ z.2.1.length ≤ 1000 + 5032 * z.1 ∧ z.2.2.length = 32 ∧ (∀ x ∈ z.2.2, x < 256) ∧ z.2.1 ++ chainN z.2.2 ((ss.drop z.1).map secN) = Y0 ++ chainN D0 (ss.map secN) ∧ lnkS z.2.2 ((ss.drop z.1).map secN) = lnkS D0 (ss.map secN)) (fun z => ss.length - z.1) (0, Y0, D0) ⟨Nat.zero_le _, by simp only; omega, hD0, hd0, rfl, rfl⟩ (Le.refl _ _) (fun z hz => wpx_ok (own := own0) _ _ _ ?_))
  obtain ⟨i, Y, D⟩ := z
  obtain ⟨j1, j2, j3, j4, j5, j6⟩ := hz
  simp only at j1 j2 j3 j4 j5 j6
  dsimp only
  generalize Y0 ++ chainN D0 (ss.map secN) = LE at j5 ⊢
  generalize lnkS D0 (ss.map secN) = DE at j6 ⊢
  repeat ((conv => whnf); first | refine Br.t ?_ | refine Br.f ?_ | refine ⟨rfl, ?_⟩)
  conv => whnf
  refine Br.mk (fun g => ?_) (fun g => ?_)
  · have g : i < ss.length := by have g := of_decide_eq_true g; rw [List.length_map] at g; change ((i : Nat) : Int) < ((ss.length : Nat) : Int) at g; omega
    have edr : ss.drop i = ss[i] :: ss.drop (i + 1) := List.drop_eq_getElem_cons g
    have ex : (ss.map encSec).getD ((i : Int)).toNat [] = encSec (ss[i]) := by rw [Int.toNat_natCast]; exact getD_enc g
    have hx := hs _ (List.getElem_mem g)
    rw [edr, List.map_cons, chainN] at j5
    rw [edr, List.map_cons, lnkS] at j6
    generalize ss[i] = x at ex hx j5 j6
    have cs := section75 x hx
    have hbl := secN_len hx
    have cl := link76 D (secN x) j3 j4 (secN_byte x) (by omega)
    have hE := lnk_len D (secN x)
    have hEb := lnk_byte D (secN x)
    generalize lnk D (secN x) = E at cl hE hEb j5 j6
    generalize secN x = b at cs hbl cl j5
    have hYE : Y ++ b ++ E ++ chainN E ((ss.drop (i + 1)).map secN) = LE := by rw [← j5]; simp only [List.append_assoc]
    obtain ⟨e0, e1, e2, e3, e4, e5, e6, e7, e8, e9, e10, e11, e12, e13, e14, e15, e16, e17, e18, e19, e20, e21, e22, e23, e24, e25, e26, e27, e28, e29, e30, e31, rfl⟩ := list32 j3
    obtain ⟨f0, f1, f2, f3, f4, f5, f6, f7, f8, f9, f10, f11, f12, f13, f14, f15, f16, f17, f18, f19, f20, f21, f22, f23, f24, f25, f26, f27, f28, f29, f30, f31, rfl⟩ := list32 hE
    repeat ((conv => whnf); first | refine Br.t ?_ | refine Br.f ?_ | refine ⟨rfl, ?_⟩)
    conv => whnf
    refine ⟨⟨by omega, by show (i : Int) < (((ss.map encSec).length : Nat) : Int); rw [List.length_map]; omega, by show ((ss.map encSec).getD ((i : Int)).toNat []).length = _; rw [ex]; rfl⟩, ?_⟩
    rw [show (ss.map encSec).getD ((i : Int)).toNat [] = encSec x from ex]
    repeat ((conv => whnf); first | refine Br.t ?_ | refine Br.f ?_ | refine ⟨rfl, ?_⟩)
    conv => whnf
    refine CallW.mono (cs.pure _ rfl rfl) ?_
    rintro r st' ⟨rfl, rfl⟩
    repeat ((conv => whnf); first | refine Br.t ?_ | refine Br.f ?_ | refine ⟨rfl, ?_⟩)
    conv => whnf
    refine ⟨⟨rfl, rfl, rfl⟩, ?_⟩
    repeat ((conv => whnf); first | refine Br.t ?_ | refine Br.f ?_ | refine ⟨rfl, ?_⟩)
    conv => whnf
    refine CallW.mono (cl.pure _ rfl (cl_b 0 _)) ?_
    rintro r st' ⟨rfl, rfl⟩
    repeat ((conv => whnf); first | refine Br.t ?_ | refine Br.f ?_ | refine ⟨rfl, ?_⟩)
    conv => whnf
    refine ⟨⟨rfl, rfl, rfl, rfl, rfl⟩, ?_⟩
    repeat ((conv => whnf); first | refine Br.t ?_ | refine Br.f ?_ | refine ⟨rfl, ?_⟩)
    conv => whnf
    refine draw_ok (own := own0) [2, 4] [(3, 2)] [] rfl (by kernel_rfl) (Nat.zero_le _) ?_
    repeat ((conv => whnf); first | refine Br.t ?_ | refine Br.f ?_ | refine ⟨rfl, ?_⟩)
    conv => whnf
    refine ⟨⟨bytes_one _, by simp [lift], by show (_ + _) * 1 ≤ _; simp [lift]; omega, len_mx (by simp [lift]; omega)⟩, ?_⟩
    repeat ((conv => whnf); first | refine Br.t ?_ | refine Br.f ?_ | refine ⟨rfl, ?_⟩)
    conv => whnf
    refine ⟨⟨rfl, rfl, rfl, by decide, by decide, by decide, by decide, by decide⟩, ?_⟩
    repeat ((conv => whnf); first | refine Br.t ?_ | refine Br.f ?_ | refine ⟨rfl, ?_⟩)
    conv => whnf
    refine ⟨apR (es := ([f0, f1, f2, f3, f4, f5, f6, f7, f8, f9, f10, f11, f12, f13, f14, f15, f16, f17, f18, f19, f20, f21, f22, f23, f24, f25, f26, f27, f28, f29, f30, f31] : List Nat).map by8) rfl (by simp [lift]) 1 rfl (by simp [lift]; omega) (len_mx (by simp [lift]; omega)), ?_⟩
    repeat ((conv => whnf); first | refine Br.t ?_ | refine Br.f ?_ | refine ⟨rfl, ?_⟩)
    conv => whnf
    refine ⟨by repeat ((conv => whnf); first | exact trivial | refine ⟨rfl, ?_⟩), by repeat ((conv => whnf); first | exact trivial | refine ⟨by (conv => whnf); exact ⟨⟨rfl, rfl, rfl, by decide, by decide, by decide, by decide, by decide⟩, rfl, rfl⟩, ?_⟩), ?_⟩
    repeat ((conv => whnf); first | refine Br.t ?_ | refine Br.f ?_ | refine ⟨rfl, ?_⟩)
    conv => whnf
    refine ⟨(i + 1, Y ++ b ++ [f0, f1, f2, f3, f4, f5, f6, f7, f8, f9, f10, f11, f12, f13, f14, f15, f16, f17, f18, f19, f20, f21, f22, f23, f24, f25, f26, f27, f28, f29, f30, f31], [f0, f1, f2, f3, f4, f5, f6, f7, f8, f9, f10, f11, f12, f13, f14, f15, f16, f17, f18, f19, f20, f21, f22, f23, f24, f25, f26, f27, f28, f29, f30, f31]), ⟨by simp only; omega, by simp only [List.length_append]; omega, hE, hEb, hYE, j6⟩, by simp only; omega, ?_⟩
    refine Le.trans (s' := ⟨yw3 (Y ++ b ++ [f0, f1, f2, f3, f4, f5, f6, f7, f8, f9, f10, f11, f12, f13, f14, f15, f16, f17, f18, f19, f20, f21, f22, f23, f24, f25, f26, f27, f28, f29, f30, f31]).length (i + 1), [.dead, .dead, bR 3 (Y ++ b ++ [f0, f1, f2, f3, f4, f5, f6, f7, f8, f9, f10, f11, f12, f13, f14, f15, f16, f17, f18, f19, f20, f21, f22, f23, f24, f25, f26, f27, f28, f29, f30, f31]), ctR ⟨l32 d0 d1 d2 d3 d4 d5 d6 d7 d8 d9 d10 d11 d12 d13 d14 d15 d16 d17 d18 d19 d20 d21 d22 d23 d24 d25 d26 d27 d28 d29 d30 d31, ss, js⟩, lnkR [f0, f1, f2, f3, f4, f5, f6, f7, f8, f9, f10, f11, f12, f13, f14, f15, f16, f17, f18, f19, f20, f21, f22, f23, f24, f25, f26, f27, f28, f29, f30, f31]]⟩) (Le.slE ?_ ?_) (Le.down (fun id => if id = 2 then 2 else 0) (fun id hid => by cases hid) ?_ ?_)
    · rw [i64_id (n := (i : Int) + 1) (by omega) (by omega)]
      repeat ((conv => whnf); first | exact trivial | refine ⟨.inl rfl, ?_⟩ | refine ⟨.inr rfl, ?_⟩ | refine ⟨.inr (by show V.ref 2 (1 + 1 + 1) 0 (Y.length + (lift (b.map by8)).length + 32) = _; simp [lift] <;> omega), ?_⟩ | refine ⟨.inr (by simp [lift]), ?_⟩)
    · rw [bR, List.map_append, List.map_append, lift_app, lift_app]; rfl
    · simp [leS, yw0, yw3, V.up, V.up.upAll]
    · simp [upSt, Ob.up, ywB, bR, lnkR, ctR, encCt, l32, encSec, V.up.upAll, V.up, map_up_lift]
  · have g : i = ss.length := by have g := of_decide_eq_false g; rw [List.length_map] at g; change ¬ ((i : Nat) : Int) < ((ss.length : Nat) : Int) at g; omega
    subst g
    rw [List.drop_length, List.map_nil, chainN, List.append_nil] at j5
    rw [List.drop_length, List.map_nil, lnkS] at j6
    rw [← j5, ← j6]
    repeat ((conv => whnf); first | refine Br.t ?_ | refine Br.f ?_ | refine ⟨rfl, ?_⟩)
    conv => whnf
    exact ⟨_, Le.slE (sl' := ywE Y.length) (by simp [leS, yw0, ywE]) rfl, rfl, rfl⟩
end Go.Proofs.YtdbmfnhbgacldaaDoor.Am

/- Contracts: a certificate's bytes, the document's: the justifications. -/
namespace Go.Proofs.YtdbmfnhbgacldaaDoor.Am
set_option autoImplicit false
set_option linter.unusedVariables false
set_option linter.unusedSimpArgs false
set_option maxRecDepth 100000
set_option pp.maxSteps 3000
set_option pp.proofs false
theorem dat_lift' (id ver : Nat) (is es : List (List I)) : (lift es).map (V.dat.datAll id ver is) = lift es := by
  simp only [lift, List.map_map]
  refine List.map_congr_left fun cs _ => ?_
  simp only [Function.comp]
  induction cs with
  | nil => rfl
  | cons c cs ih => simp [V.dat.datAll, V.dat, ih]
def yw1v (n m i v : Nat) : List V := [.undef, .ptr 3 0 0 0, .undef, .ref 2 1 0 n, .ptr 4 1 0 0, .undef, .undef, .ref 5 v 0 m, .i (.int .i64 i)] ++ List.replicate 80 .undef
theorem jb_wrap {a : Int} (h : 0 ≤ a ∧ a ≤ 15) : IntKind.u8.wrap a = ((a.toNat : Nat) : Int) ∧ putN a.toNat = [a.toNat] := by
  refine ⟨?_, by rw [putN, dif_pos (by omega)]⟩
  simp [IntKind.wrap, IntKind.signed, IntKind.bits]; omega
set_option maxHeartbeats 8000000 in
theorem yj_loop (d0 d1 d2 d3 d4 d5 d6 d7 d8 d9 d10 d11 d12 d13 d14 d15 d16 d17 d18 d19 d20 d21 d22 d23 d24 d25 d26 d27 d28 d29 d30 d31 : Nat) (ss : List Sec) (js : List Jst) (hj : ∀ j ∈ js, jstB j = true) (hl : js.length ≤ 16) (Y D J0 : List Nat) (hY : Y.length ≤ 100000) (hJ0 : J0.length ≤ 10) :
    W Tryd.prog G0 0 (.loop (lp Tryd.f47 1)) (fun e s' => e = .exit 2 ∧ s' = ⟨yw2 Y.length (.i (.sl ((J0 ++ js.flatMap jstN).map by8))), ywB ⟨l32 d0 d1 d2 d3 d4 d5 d6 d7 d8 d9 d10 d11 d12 d13 d14 d15 d16 d17 d18 d19 d20 d21 d22 d23 d24 d25 d26 d27 d28 d29 d30 d31, ss, js⟩ Y D⟩) ⟨yw1 Y.length J0.length 0, ywB ⟨l32 d0 d1 d2 d3 d4 d5 d6 d7 d8 d9 d10 d11 d12 d13 d14 d15 d16 d17 d18 d19 d20 d21 d22 d23 d24 d25 d26 d27 d28 d29 d30 d31, ss, js⟩ Y D ++ [bR 1 J0]⟩ := by
  refine W.weak (loop_ok (α := Nat × List Nat) (fun z => ⟨yw1 Y.length z.2.length z.1, ywB ⟨l32 d0 d1 d2 d3 d4 d5 d6 d7 d8 d9 d10 d11 d12 d13 d14 d15 d16 d17 d18 d19 d20 d21 d22 d23 d24 d25 d26 d27 d28 d29 d30 d31, ss, js⟩ Y D ++ [bR 1 z.2]⟩)
    (fun z => z.1 ≤ js.length ∧ z.2.length ≤ 10 + 10 * z.1 ∧ z.2 ++ (js.drop z.1).flatMap jstN = J0 ++ js.flatMap jstN) (fun z => js.length - z.1) (0, J0) ⟨Nat.zero_le _, by simp only; omega, rfl⟩ (Le.refl _ _) (fun z hz => wpx_ok (own := own0) _ _ _ ?_))
  obtain ⟨i, J⟩ := z
  obtain ⟨j1, j2, j3⟩ := hz
  simp only at j1 j2 j3
  dsimp only
  generalize J0 ++ js.flatMap jstN = LE at j3 ⊢
  repeat ((conv => whnf); first | refine Br.t ?_ | refine Br.f ?_ | refine ⟨rfl, ?_⟩)
  conv => whnf
  refine Br.mk (fun g => ?_) (fun g => ?_)
  · have g : i < js.length := by have g := of_decide_eq_true g; rw [List.length_map] at g; change ((i : Nat) : Int) < ((js.length : Nat) : Int) at g; omega
    have edr : js.drop i = js[i] :: js.drop (i + 1) := List.drop_eq_getElem_cons g
    have ex : (js.map encJ).getD ((i : Int)).toNat [] = encJ (js[i]) := by rw [Int.toNat_natCast]; exact getD_enc g
    obtain ⟨k1, k2, k3⟩ := jstB_ok (hj _ (List.getElem_mem g))
    rw [edr, List.flatMap_cons] at j3
    generalize js[i] = x at ex k1 k2 k3 j3
    obtain ⟨a, b⟩ := x
    simp only at k1 k2 k3
    obtain ⟨wa, pa⟩ := jb_wrap (a := a) (by omega)
    obtain ⟨wb, pb⟩ := jb_wrap (a := b) k2
    have gj : (i : Int) < (((js.map encJ).length : Nat) : Int) := by rw [List.length_map]; omega
    repeat ((conv => whnf); first | refine Br.t ?_ | refine Br.f ?_ | refine ⟨rfl, ?_⟩)
    conv => whnf
    refine ⟨⟨by omega, gj, by show ((js.map encJ).getD ((i : Int)).toNat []).length = _; rw [ex]; rfl⟩, ?_⟩
    rw [show (js.map encJ).getD ((i : Int)).toNat [] = encJ (a, b) from ex]
    repeat ((conv => whnf); first | refine Br.t ?_ | refine Br.f ?_ | refine ⟨rfl, ?_⟩)
    conv => whnf
    rw [wa]
    refine ⟨⟨by intro cs hcs; simp at hcs; subst hcs; rfl, by simp [lift], by show (J.length + 1) * 1 ≤ _; omega, len_mx (by show J.length + 1 ≤ _; omega)⟩, ?_⟩
    repeat ((conv => whnf); first | refine Br.t ?_ | refine Br.f ?_ | refine ⟨rfl, ?_⟩)
    conv => whnf
    refine ⟨⟨by omega, gj, by show ((js.map encJ).getD ((i : Int)).toNat []).length = _; rw [ex]; rfl⟩, ?_⟩
    rw [show (js.map encJ).getD ((i : Int)).toNat [] = encJ (a, b) from ex]
    repeat ((conv => whnf); first | refine Br.t ?_ | refine Br.f ?_ | refine ⟨rfl, ?_⟩)
    conv => whnf
    refine Br.mk (fun q => ?_) (fun q => ?_)
    · have q : a = 2 := by simpa using q
      have ej : jstN (a, b) = [a.toNat] ++ [b.toNat] := by unfold jstN; rw [if_pos q, pa, pb]
      repeat ((conv => whnf); first | refine Br.t ?_ | refine Br.f ?_ | refine ⟨rfl, ?_⟩)
      conv => whnf
      refine ⟨⟨by omega, gj, by show ((js.map encJ).getD ((i : Int)).toNat []).length = _; rw [ex]; rfl⟩, ?_⟩
      rw [show (js.map encJ).getD ((i : Int)).toNat [] = encJ (a, b) from ex]
      repeat ((conv => whnf); first | refine Br.t ?_ | refine Br.f ?_ | refine ⟨rfl, ?_⟩)
      conv => whnf
      rw [wb]
      refine ⟨⟨by intro cs hcs; simp at hcs; subst hcs; rfl, by simp [lift], by show (J.length + 1 + 1) * 1 ≤ _; omega, len_mx (by show J.length + 1 + 1 ≤ _; omega)⟩, ?_⟩
      repeat ((conv => whnf); first | refine Br.t ?_ | refine Br.f ?_ | refine ⟨rfl, ?_⟩)
      conv => whnf
      refine ⟨(i + 1, J ++ [a.toNat] ++ [b.toNat]), ⟨by simp only; omega, by simp only [List.length_append, List.length_cons, List.length_nil]; omega, by rw [← j3, ej]; simp only [List.append_assoc]⟩, by simp only; omega, ?_⟩
      refine Le.trans (s' := ⟨yw1v Y.length (J ++ [a.toNat] ++ [b.toNat]).length (i + 1) 3, ywB ⟨l32 d0 d1 d2 d3 d4 d5 d6 d7 d8 d9 d10 d11 d12 d13 d14 d15 d16 d17 d18 d19 d20 d21 d22 d23 d24 d25 d26 d27 d28 d29 d30 d31, ss, js⟩ Y D ++ [bR 3 (J ++ [a.toNat] ++ [b.toNat])]⟩) (Le.slE ?_ ?_) (Le.down (fun id => if id = 5 then 2 else 0) (fun id hid => by cases hid) ?_ ?_)
      · simp [leS, yw1v, lift]
        exact i64_id (by omega) (by omega)
      · simp only [bR, List.map_append, lift_app]; rfl
      · simp [leS, yw1, yw1v, V.up]
      · simp [upSt, Ob.up, ywB, bR, lnkR, ctR, encCt, l32, V.up.upAll, V.up, map_up_lift]
    · have q : ¬ a = 2 := by simpa using q
      have ej : jstN (a, b) = [a.toNat] := by unfold jstN; rw [if_neg q, pa]
      repeat ((conv => whnf); first | refine Br.t ?_ | refine Br.f ?_ | refine ⟨rfl, ?_⟩)
      conv => whnf
      refine ⟨(i + 1, J ++ [a.toNat]), ⟨by simp only; omega, by simp only [List.length_append, List.length_cons, List.length_nil]; omega, by rw [← j3, ej]; simp only [List.append_assoc]⟩, by simp only; omega, ?_⟩
      refine Le.trans (s' := ⟨yw1v Y.length (J ++ [a.toNat]).length (i + 1) 2, ywB ⟨l32 d0 d1 d2 d3 d4 d5 d6 d7 d8 d9 d10 d11 d12 d13 d14 d15 d16 d17 d18 d19 d20 d21 d22 d23 d24 d25 d26 d27 d28 d29 d30 d31, ss, js⟩ Y D ++ [bR 2 (J ++ [a.toNat])]⟩) (Le.slE ?_ ?_) (Le.down (fun id => if id = 5 then 1 else 0) (fun id hid => by cases hid) ?_ ?_)
      · simp [leS, yw1v, lift]
        exact i64_id (by omega) (by omega)
      · simp only [bR, List.map_append, lift_app]; rfl
      · simp [leS, yw1, yw1v, V.up]
      · simp [upSt, Ob.up, ywB, bR, lnkR, ctR, encCt, l32, V.up.upAll, V.up, map_up_lift]
  · have g : i = js.length := by have g := of_decide_eq_false g; rw [List.length_map] at g; change ¬ ((i : Nat) : Int) < ((js.length : Nat) : Int) at g; omega
    subst g
    rw [List.drop_length, List.flatMap_nil, List.append_nil] at j3
    rw [← j3]
    repeat ((conv => whnf); first | refine Br.t ?_ | refine Br.f ?_ | refine ⟨rfl, ?_⟩)
    conv => whnf
    refine ⟨⟨yw2 Y.length (.i (.sl (J.map by8))), ywB ⟨l32 d0 d1 d2 d3 d4 d5 d6 d7 d8 d9 d10 d11 d12 d13 d14 d15 d16 d17 d18 d19 d20 d21 d22 d23 d24 d25 d26 d27 d28 d29 d30 d31, ss, js⟩ Y D⟩, Le.trans (s' := ⟨yw2 Y.length (.i (.sl (J.map by8))), ywB ⟨l32 d0 d1 d2 d3 d4 d5 d6 d7 d8 d9 d10 d11 d12 d13 d14 d15 d16 d17 d18 d19 d20 d21 d22 d23 d24 d25 d26 d27 d28 d29 d30 d31, ss, js⟩ Y D ++ [.dead]⟩) (Le.data 5 1 1 (J.map by8) rfl ?_ ?_) (Le.short (Nat.zero_le _) rfl (ywB_cl d0 d1 d2 d3 d4 d5 d6 d7 d8 d9 d10 d11 d12 d13 d14 d15 d16 d17 d18 d19 d20 d21 d22 d23 d24 d25 d26 d27 d28 d29 d30 d31 ss js Y D _)), rfl, rfl⟩
    · simp [leS, yw1, yw2, V.dat]
      first | exact List.take_of_length_le (by simp) | exact (List.take_of_length_le (by simp)).symm
    · simp [ywB, bR, lnkR, ctR, encCt, l32, Ob.dat, V.dat.datAll, V.dat, dat_lift']
end Go.Proofs.YtdbmfnhbgacldaaDoor.Am

/- Contracts: a certificate's bytes, the document's. -/
namespace Go.Proofs.YtdbmfnhbgacldaaDoor.Am
set_option autoImplicit false
set_option linter.unusedVariables false
set_option linter.unusedSimpArgs false
set_option maxRecDepth 100000
set_option pp.maxSteps 3000
set_option pp.proofs false
def yu (v n : Nat) : List V := [.undef, .ptr 1 1 0 0, .undef, .ref 2 v 0 n] ++ List.replicate 85 .undef
def yv (v n : Nat) : List V := [.undef, .ptr 3 0 0 0, .undef, .ref 2 v 0 n] ++ List.replicate 85 .undef
def yx (v n : Nat) : List V := [.undef, .ptr 3 0 0 0, .undef, .ref 2 v 0 n, .ptr 4 1 0 0, .i (.int .i64 (0 : Nat))] ++ List.replicate 83 .undef
def flatR (c : Ct) : Ob := .row 1 1 false (((encCt c).map V.i).map fun c => [c])
set_option maxHeartbeats 16000000 in
theorem refcwrite (c : Ct) (hc : OkT c) (ok : CtOk c) : CallW Tryd.prog G0 47 [ctV c] [] (fun r st' => r = .i (.sl ((certN c).map by8)) ∧ st' = []) := by
  refine call_of_bodyF 0 (Nat.le_refl _) Tryd.func47 rfl (fun a w => Tryd.call47 a w) (W.seq (wpx_ok (own := own0) _ _ _ ?_))
  obtain ⟨d, ss, js⟩ := c
  obtain ⟨h1, h2, h3, h4, hs⟩ := hc
  simp only at h1 h2 h3 h4 hs
  obtain ⟨d0, d1, d2, d3, d4, d5, d6, d7, d8, d9, d10, d11, d12, d13, d14, d15, d16, d17, d18, d19, d20, d21, d22, d23, d24, d25, d26, d27, d28, d29, d30, d31, hd⟩ := list32 h1
  replace hd : d = l32 d0 d1 d2 d3 d4 d5 d6 d7 d8 d9 d10 d11 d12 d13 d14 d15 d16 d17 d18 d19 d20 d21 d22 d23 d24 d25 d26 d27 d28 d29 d30 d31 := hd
  subst hd
  have hso : ∀ x ∈ ss, SecOk x := fun x hx => secB_ok.1 (ok.s x hx)
  have hsl : ss.length ≤ 16 := ok.n.2
  have hjl : js.length ≤ 16 := ok.m
  have c2 := put30 ss.length (by omega)
  have pl := putN_len 4 ss.length (by omega)
  have al : alc.length = 4 := rfl
  have hA : (alc ++ l32 d0 d1 d2 d3 d4 d5 d6 d7 d8 d9 d10 d11 d12 d13 d14 d15 d16 d17 d18 d19 d20 d21 d22 d23 d24 d25 d26 d27 d28 d29 d30 d31).length = 36 := rfl
  have lo := yw_loop d0 d1 d2 d3 d4 d5 d6 d7 d8 d9 d10 d11 d12 d13 d14 d15 d16 d17 d18 d19 d20 d21 d22 d23 d24 d25 d26 d27 d28 d29 d30 d31 ss js hso hsl (alc ++ l32 d0 d1 d2 d3 d4 d5 d6 d7 d8 d9 d10 d11 d12 d13 d14 d15 d16 d17 d18 d19 d20 d21 d22 d23 d24 d25 d26 d27 d28 d29 d30 d31 ++ putN ss.length) (l32 d0 d1 d2 d3 d4 d5 d6 d7 d8 d9 d10 d11 d12 d13 d14 d15 d16 d17 d18 d19 d20 d21 d22 d23 d24 d25 d26 d27 d28 d29 d30 d31) (by rw [List.length_append, hA]; omega) h1 h2
  have hlk := lnkS_ok (ss.map secN) (l32 d0 d1 d2 d3 d4 d5 d6 d7 d8 d9 d10 d11 d12 d13 d14 d15 d16 d17 d18 d19 d20 d21 d22 d23 d24 d25 d26 d27 d28 d29 d30 d31) h1 h2
  have hch := chain_len ss (l32 d0 d1 d2 d3 d4 d5 d6 d7 d8 d9 d10 d11 d12 d13 d14 d15 d16 d17 d18 d19 d20 d21 d22 d23 d24 d25 d26 d27 d28 d29 d30 d31) hso
  have hLE : (alc ++ l32 d0 d1 d2 d3 d4 d5 d6 d7 d8 d9 d10 d11 d12 d13 d14 d15 d16 d17 d18 d19 d20 d21 d22 d23 d24 d25 d26 d27 d28 d29 d30 d31 ++ putN ss.length ++ chainN (l32 d0 d1 d2 d3 d4 d5 d6 d7 d8 d9 d10 d11 d12 d13 d14 d15 d16 d17 d18 d19 d20 d21 d22 d23 d24 d25 d26 d27 d28 d29 d30 d31) (ss.map secN)).length ≤ 100000 := by rw [List.length_append, List.length_append, hA]; omega
  have hcert : alc ++ l32 d0 d1 d2 d3 d4 d5 d6 d7 d8 d9 d10 d11 d12 d13 d14 d15 d16 d17 d18 d19 d20 d21 d22 d23 d24 d25 d26 d27 d28 d29 d30 d31 ++ putN ss.length ++ chainN (l32 d0 d1 d2 d3 d4 d5 d6 d7 d8 d9 d10 d11 d12 d13 d14 d15 d16 d17 d18 d19 d20 d21 d22 d23 d24 d25 d26 d27 d28 d29 d30 d31) (ss.map secN) ++ jstsN js ++ lnk (lnkS (l32 d0 d1 d2 d3 d4 d5 d6 d7 d8 d9 d10 d11 d12 d13 d14 d15 d16 d17 d18 d19 d20 d21 d22 d23 d24 d25 d26 d27 d28 d29 d30 d31) (ss.map secN)) (jstsN js) = certN ⟨l32 d0 d1 d2 d3 d4 d5 d6 d7 d8 d9 d10 d11 d12 d13 d14 d15 d16 d17 d18 d19 d20 d21 d22 d23 d24 d25 d26 d27 d28 d29 d30 d31, ss, js⟩ := by
    rw [certN_body, bodyN, lastL]; simp only [List.append_assoc]
  have cj := put17r js.length (by omega)
  have pj := putN_len 4 js.length (by omega)
  have jb := jstsN_byte js
  have jl : (jstsN js).length ≤ 200 := jstsN_len ok.j hjl
  rw [← hcert]
  generalize putN ss.length = Pn at c2 pl lo hLE ⊢
  generalize alc ++ l32 d0 d1 d2 d3 d4 d5 d6 d7 d8 d9 d10 d11 d12 d13 d14 d15 d16 d17 d18 d19 d20 d21 d22 d23 d24 d25 d26 d27 d28 d29 d30 d31 ++ Pn ++ chainN (l32 d0 d1 d2 d3 d4 d5 d6 d7 d8 d9 d10 d11 d12 d13 d14 d15 d16 d17 d18 d19 d20 d21 d22 d23 d24 d25 d26 d27 d28 d29 d30 d31) (ss.map secN) = Y3 at lo hLE ⊢
  generalize lnkS (l32 d0 d1 d2 d3 d4 d5 d6 d7 d8 d9 d10 d11 d12 d13 d14 d15 d16 d17 d18 d19 d20 d21 d22 d23 d24 d25 d26 d27 d28 d29 d30 d31) (ss.map secN) = DE at lo hlk ⊢
  have l1 := yj_loop d0 d1 d2 d3 d4 d5 d6 d7 d8 d9 d10 d11 d12 d13 d14 d15 d16 d17 d18 d19 d20 d21 d22 d23 d24 d25 d26 d27 d28 d29 d30 d31 ss js ok.j hjl Y3 DE (putN js.length) hLE (by omega)
  have ej : putN js.length ++ js.flatMap jstN = jstsN js := rfl
  rw [ej] at l1
  have cl := link76 DE (jstsN js) hlk.1 hlk.2 jb (by omega)
  have hE := lnk_len DE (jstsN js)
  generalize lnk DE (jstsN js) = E at cl hE ⊢
  generalize jstsN js = J at l1 cl jl ⊢
  have hYB := hlk.1
  obtain ⟨f0, f1, f2, f3, f4, f5, f6, f7, f8, f9, f10, f11, f12, f13, f14, f15, f16, f17, f18, f19, f20, f21, f22, f23, f24, f25, f26, f27, f28, f29, f30, f31, rfl⟩ := list32 hE
  obtain ⟨e0, e1, e2, e3, e4, e5, e6, e7, e8, e9, e10, e11, e12, e13, e14, e15, e16, e17, e18, e19, e20, e21, e22, e23, e24, e25, e26, e27, e28, e29, e30, e31, rfl⟩ := list32 hYB
  have c2' : CallW Tryd.prog G0 17 [.i (.int .i64 ((ss.map encSec).length : Nat))] [] (fun r st' => r = .i (.sl (Pn.map by8)) ∧ st' = []) := by rw [List.length_map]; exact c2
  have cjf : CallW Tryd.prog G0 17 [.i (.int .i64 ((js.map encJ).length : Nat))] (ywB ⟨l32 d0 d1 d2 d3 d4 d5 d6 d7 d8 d9 d10 d11 d12 d13 d14 d15 d16 d17 d18 d19 d20 d21 d22 d23 d24 d25 d26 d27 d28 d29 d30 d31, ss, js⟩ Y3 [e0, e1, e2, e3, e4, e5, e6, e7, e8, e9, e10, e11, e12, e13, e14, e15, e16, e17, e18, e19, e20, e21, e22, e23, e24, e25, e26, e27, e28, e29, e30, e31]) (fun r st' => r = .ref 5 1 0 (putN js.length).length ∧ st' = ywB ⟨l32 d0 d1 d2 d3 d4 d5 d6 d7 d8 d9 d10 d11 d12 d13 d14 d15 d16 d17 d18 d19 d20 d21 d22 d23 d24 d25 d26 d27 d28 d29 d30 d31, ss, js⟩ Y3 [e0, e1, e2, e3, e4, e5, e6, e7, e8, e9, e10, e11, e12, e13, e14, e15, e16, e17, e18, e19, e20, e21, e22, e23, e24, e25, e26, e27, e28, e29, e30, e31] ++ [bR 1 (putN js.length)]) := by
    rw [List.length_map]
    refine (CallW.fresh (ywB ⟨l32 d0 d1 d2 d3 d4 d5 d6 d7 d8 d9 d10 d11 d12 d13 d14 d15 d16 d17 d18 d19 d20 d21 d22 d23 d24 d25 d26 d27 d28 d29 d30 d31, ss, js⟩ Y3 [e0, e1, e2, e3, e4, e5, e6, e7, e8, e9, e10, e11, e12, e13, e14, e15, e16, e17, e18, e19, e20, e21, e22, e23, e24, e25, e26, e27, e28, e29, e30, e31]) cj rfl).mono ?_
    rintro r st' ⟨rfl, rfl⟩
    exact ⟨rfl, by simp only [List.map_cons, List.map_nil, ren_lift]; rfl⟩
  repeat ((conv => whnf); first | refine Br.t ?_ | refine Br.f ?_ | refine ⟨rfl, ?_⟩)
  conv => whnf
  refine W.le (Le.flat (n := 0) 1 0 (Nat.zero_le _) rfl rfl (by simp)) (W.seq (wpx_ok (own := fun t => t == 9 || t == 10) _ _ _ ?_))
  repeat ((conv => whnf); first | refine Br.t ?_ | refine Br.f ?_ | refine ⟨rfl, ?_⟩)
  conv => whnf
  refine ⟨⟨rfl, by decide⟩, ?_⟩
  repeat ((conv => whnf); first | refine Br.t ?_ | refine Br.f ?_ | refine ⟨rfl, ?_⟩)
  conv => whnf
  refine ⟨⟨rfl, rfl, rfl, by decide, by decide, by decide, by decide, by decide⟩, ?_⟩
  repeat ((conv => whnf); first | refine Br.t ?_ | refine Br.f ?_ | refine ⟨rfl, ?_⟩)
  conv => whnf
  refine ⟨apR (es := (l32 d0 d1 d2 d3 d4 d5 d6 d7 d8 d9 d10 d11 d12 d13 d14 d15 d16 d17 d18 d19 d20 d21 d22 d23 d24 d25 d26 d27 d28 d29 d30 d31).map by8) rfl rfl 1 rfl (by simp [l32]) (len_mx (by simp [l32])), ?_⟩
  repeat ((conv => whnf); first | refine Br.t ?_ | refine Br.f ?_ | refine ⟨rfl, ?_⟩)
  conv => whnf
  refine W.le (s' := ⟨yv 1 36, [.dead, .dead, bR 1 (alc ++ l32 d0 d1 d2 d3 d4 d5 d6 d7 d8 d9 d10 d11 d12 d13 d14 d15 d16 d17 d18 d19 d20 d21 d22 d23 d24 d25 d26 d27 d28 d29 d30 d31), ctR ⟨l32 d0 d1 d2 d3 d4 d5 d6 d7 d8 d9 d10 d11 d12 d13 d14 d15 d16 d17 d18 d19 d20 d21 d22 d23 d24 d25 d26 d27 d28 d29 d30 d31, ss, js⟩]⟩) ((Le.slE (sl' := yu 2 36) (st' := [.dead, flatR ⟨l32 d0 d1 d2 d3 d4 d5 d6 d7 d8 d9 d10 d11 d12 d13 d14 d15 d16 d17 d18 d19 d20 d21 d22 d23 d24 d25 d26 d27 d28 d29 d30 d31, ss, js⟩, bR 2 (alc ++ l32 d0 d1 d2 d3 d4 d5 d6 d7 d8 d9 d10 d11 d12 d13 d14 d15 d16 d17 d18 d19 d20 d21 d22 d23 d24 d25 d26 d27 d28 d29 d30 d31)]) (by repeat ((conv => whnf); first | exact trivial | refine ⟨.inl rfl, ?_⟩ | refine ⟨.inr rfl, ?_⟩)) rfl).trans ((Le.unflat 1 1 (Nat.zero_le _) rfl rfl).trans ((Le.slE (sl' := yv 2 36) (st' := [.dead, .dead, bR 2 (alc ++ l32 d0 d1 d2 d3 d4 d5 d6 d7 d8 d9 d10 d11 d12 d13 d14 d15 d16 d17 d18 d19 d20 d21 d22 d23 d24 d25 d26 d27 d28 d29 d30 d31), ctR ⟨l32 d0 d1 d2 d3 d4 d5 d6 d7 d8 d9 d10 d11 d12 d13 d14 d15 d16 d17 d18 d19 d20 d21 d22 d23 d24 d25 d26 d27 d28 d29 d30 d31, ss, js⟩]) (by repeat ((conv => whnf); first | exact trivial | refine ⟨.inl rfl, ?_⟩ | refine ⟨.inr rfl, ?_⟩)) rfl).trans (Le.down (fun id => if id = 2 then 1 else 0) (fun id hid => by cases hid) (by simp [leS, yv, V.up]) (by simp [upSt, Ob.up, bR, ctR, encCt, l32, V.up.upAll, V.up, map_up_lift])))))
    (wpx_ok (own := own0) _ _ _ ?_)
  repeat ((conv => whnf); first | refine Br.t ?_ | refine Br.f ?_ | refine ⟨rfl, ?_⟩)
  conv => whnf
  refine CallW.mono (c2'.pure _ rfl rfl) ?_
  rintro r st' ⟨rfl, rfl⟩
  repeat ((conv => whnf); first | refine Br.t ?_ | refine Br.f ?_ | refine ⟨rfl, ?_⟩)
  conv => whnf
  refine ⟨⟨bytes_one _, rfl, by show (36 + (lift (Pn.map by8)).length) * 1 ≤ _; simp [lift]; omega, len_mx (by simp [lift]; omega)⟩, ?_⟩
  repeat ((conv => whnf); first | refine Br.t ?_ | refine Br.f ?_ | refine ⟨rfl, ?_⟩)
  conv => whnf
  refine ⟨⟨rfl, rfl, rfl, rfl, rfl⟩, ?_⟩
  repeat ((conv => whnf); first | refine Br.t ?_ | refine Br.f ?_ | refine ⟨rfl, ?_⟩)
  conv => whnf
  refine W.le (s' := ⟨yw0 (alc ++ l32 d0 d1 d2 d3 d4 d5 d6 d7 d8 d9 d10 d11 d12 d13 d14 d15 d16 d17 d18 d19 d20 d21 d22 d23 d24 d25 d26 d27 d28 d29 d30 d31 ++ Pn).length 0, ywB ⟨l32 d0 d1 d2 d3 d4 d5 d6 d7 d8 d9 d10 d11 d12 d13 d14 d15 d16 d17 d18 d19 d20 d21 d22 d23 d24 d25 d26 d27 d28 d29 d30 d31, ss, js⟩ (alc ++ l32 d0 d1 d2 d3 d4 d5 d6 d7 d8 d9 d10 d11 d12 d13 d14 d15 d16 d17 d18 d19 d20 d21 d22 d23 d24 d25 d26 d27 d28 d29 d30 d31 ++ Pn) (l32 d0 d1 d2 d3 d4 d5 d6 d7 d8 d9 d10 d11 d12 d13 d14 d15 d16 d17 d18 d19 d20 d21 d22 d23 d24 d25 d26 d27 d28 d29 d30 d31)⟩) ((Le.slE (sl' := yx 2 (alc ++ l32 d0 d1 d2 d3 d4 d5 d6 d7 d8 d9 d10 d11 d12 d13 d14 d15 d16 d17 d18 d19 d20 d21 d22 d23 d24 d25 d26 d27 d28 d29 d30 d31 ++ Pn).length) (st' := [.dead, .dead, bR 2 (alc ++ l32 d0 d1 d2 d3 d4 d5 d6 d7 d8 d9 d10 d11 d12 d13 d14 d15 d16 d17 d18 d19 d20 d21 d22 d23 d24 d25 d26 d27 d28 d29 d30 d31 ++ Pn), ctR ⟨l32 d0 d1 d2 d3 d4 d5 d6 d7 d8 d9 d10 d11 d12 d13 d14 d15 d16 d17 d18 d19 d20 d21 d22 d23 d24 d25 d26 d27 d28 d29 d30 d31, ss, js⟩, lnkR (l32 d0 d1 d2 d3 d4 d5 d6 d7 d8 d9 d10 d11 d12 d13 d14 d15 d16 d17 d18 d19 d20 d21 d22 d23 d24 d25 d26 d27 d28 d29 d30 d31)]) ?_ ?_).trans (Le.down (fun id => if id = 2 then 1 else 0) (fun id hid => by cases hid) ?_ ?_)) (W.mono lo ?_)
  · repeat ((conv => whnf); first | exact trivial | refine ⟨.inl rfl, ?_⟩ | refine ⟨.inr rfl, ?_⟩ | refine ⟨.inr (by show V.ref 2 (1 + 1) 0 (36 + (lift (Pn.map by8)).length) = _; simp [lift, hA, yx, al, l32] <;> omega), ?_⟩)
  · rw [bR, List.map_append, lift_app]; rfl
  · simp [leS, yw0, yx, V.up]
  · simp [upSt, Ob.up, ywB, bR, lnkR, ctR, encCt, l32, V.up.upAll, V.up, map_up_lift]
  rintro e s ⟨rfl, rfl⟩
  repeat ((conv => whnf); first | refine Br.t ?_ | refine Br.f ?_ | refine ⟨rfl, ?_⟩)
  conv => whnf
  refine CallW.mono cjf ?_
  rintro r st' ⟨rfl, rfl⟩
  repeat ((conv => whnf); first | refine Br.t ?_ | refine Br.f ?_ | refine ⟨rfl, ?_⟩)
  conv => whnf
  refine W.le (s' := ⟨yw1 Y3.length (putN js.length).length 0, ywB ⟨l32 d0 d1 d2 d3 d4 d5 d6 d7 d8 d9 d10 d11 d12 d13 d14 d15 d16 d17 d18 d19 d20 d21 d22 d23 d24 d25 d26 d27 d28 d29 d30 d31, ss, js⟩ Y3 [e0, e1, e2, e3, e4, e5, e6, e7, e8, e9, e10, e11, e12, e13, e14, e15, e16, e17, e18, e19, e20, e21, e22, e23, e24, e25, e26, e27, e28, e29, e30, e31] ++ [bR 1 (putN js.length)]⟩) (Le.slE (by repeat ((conv => whnf); first | exact trivial | refine ⟨.inl rfl, ?_⟩ | refine ⟨.inr rfl, ?_⟩)) rfl) (W.mono l1 ?_)
  rintro e s ⟨rfl, rfl⟩
  repeat ((conv => whnf); first | refine Br.t ?_ | refine Br.f ?_ | refine ⟨rfl, ?_⟩)
  conv => whnf
  refine ⟨⟨rfl, rfl, rfl⟩, ?_⟩
  repeat ((conv => whnf); first | refine Br.t ?_ | refine Br.f ?_ | refine ⟨rfl, ?_⟩)
  conv => whnf
  refine CallW.mono (cl.pure _ rfl (cl_b 0 _)) ?_
  rintro r st' ⟨rfl, rfl⟩
  repeat ((conv => whnf); first | refine Br.t ?_ | refine Br.f ?_ | refine ⟨rfl, ?_⟩)
  conv => whnf
  refine ⟨⟨rfl, rfl, rfl, rfl, rfl⟩, ?_⟩
  repeat ((conv => whnf); first | refine Br.t ?_ | refine Br.f ?_ | refine ⟨rfl, ?_⟩)
  conv => whnf
  refine draw_ok (own := own0) [2, 4] [(3, 2)] [] rfl (by kernel_rfl) (Nat.zero_le _) ?_
  repeat ((conv => whnf); first | refine Br.t ?_ | refine Br.f ?_ | refine ⟨rfl, ?_⟩)
  conv => whnf
  refine ⟨⟨bytes_one _, by simp [lift], by show (_ + _) * 1 ≤ _; simp [lift]; omega, len_mx (by simp [lift]; omega)⟩, ?_⟩
  repeat ((conv => whnf); first | refine Br.t ?_ | refine Br.f ?_ | refine ⟨rfl, ?_⟩)
  conv => whnf
  refine ⟨⟨rfl, rfl, rfl, by decide, by decide, by decide, by decide, by decide⟩, ?_⟩
  repeat ((conv => whnf); first | refine Br.t ?_ | refine Br.f ?_ | refine ⟨rfl, ?_⟩)
  conv => whnf
  refine ⟨apR (es := ([f0, f1, f2, f3, f4, f5, f6, f7, f8, f9, f10, f11, f12, f13, f14, f15, f16, f17, f18, f19, f20, f21, f22, f23, f24, f25, f26, f27, f28, f29, f30, f31] : List Nat).map by8) rfl (by simp [lift]) 1 rfl (by simp [lift]; omega) (len_mx (by simp [lift]; omega)), ?_⟩
  repeat ((conv => whnf); first | refine Br.t ?_ | refine Br.f ?_ | refine ⟨rfl, ?_⟩)
  conv => whnf
  refine ⟨by repeat ((conv => whnf); first | exact trivial | refine ⟨rfl, ?_⟩), by repeat ((conv => whnf); first | exact trivial | refine ⟨by (conv => whnf); exact ⟨⟨rfl, rfl, rfl, by decide, by decide, by decide, by decide, by decide⟩, rfl, rfl⟩, ?_⟩), ?_⟩
  repeat ((conv => whnf); first | refine Br.t ?_ | refine Br.f ?_ | refine ⟨rfl, ?_⟩)
  conv => whnf
  refine ⟨Nat.zero_le _, rfl, (Y3 ++ J ++ [f0, f1, f2, f3, f4, f5, f6, f7, f8, f9, f10, f11, f12, f13, f14, f15, f16, f17, f18, f19, f20, f21, f22, f23, f24, f25, f26, f27, f28, f29, f30, f31]).map by8, by rw [List.map_append, List.map_append, lift_app, lift_app]; rfl, Nat.zero_le _, rfl, by simp, ?_, rfl⟩
  rw [List.drop_zero, List.take_of_length_le (by show _ ≤ Y3.length + (lift (J.map by8)).length + 32; simp [lift]; omega)]
end Go.Proofs.YtdbmfnhbgacldaaDoor.Am

/- Contracts: the law of a certificate's bytes. -/
namespace Go.Proofs.YtdbmfnhbgacldaaDoor.Am
set_option autoImplicit false
set_option linter.unusedVariables false
set_option linter.unusedSimpArgs false
set_option maxRecDepth 100000
set_option pp.maxSteps 3000
set_option pp.proofs false
def ct0 : Ct := ⟨List.replicate 32 0, [(0, 0, [0], 0, 0, [0])], []⟩
theorem okT0 : OkT ct0 := ⟨rfl, fun x hx => by have := List.eq_of_mem_replicate hx; omega, by decide, by decide, fun x hx => by
  have : x = (0, 0, [0], 0, 0, [0]) := by simpa [ct0] using hx
  subst this
  exact ⟨by decide, by decide, ⟨by decide, by decide⟩, by decide, by decide, ⟨by decide, by decide⟩⟩⟩
theorem chk0 : (chkT ct0).2 = 0 := by decide
theorem set0N : setN 0 = [0] := by rw [setN, ids_zero]; simp [num_nat2]
theorem cert0 : certN ct0 = [97, 108, 99, 49] ++ List.replicate 32 0 ++ [1, 0, 0, 0, 0, 1, 0, 0] ++ (lnk (List.replicate 32 0) [0, 0, 0, 0, 1, 0, 0] ++ ([0] ++ lnk (lnk (List.replicate 32 0) [0, 0, 0, 0, 1, 0, 0]) [0])) := by
  have e : secN (0, 0, [0], 0, 0, [0]) = [0, 0, 0, 0, 1, 0, 0] := by
    simp only [secN, set0N, List.flatMap_cons, List.flatMap_nil, List.length_cons, List.length_nil]
    rw [num_nat2 _ (by decide)]; rfl
  have e2 : jstsN [] = [0] := by simp only [jstsN, List.flatMap_nil, List.length_nil]; rw [num_nat2 _ (by decide)]; rfl
  have e3 : putN 1 = [1] := num_nat2 1 (by decide)
  show alc ++ (List.replicate 32 0 ++ (putN 1 ++ (secN (0, 0, [0], 0, 0, [0]) ++ (lnk (List.replicate 32 0) (secN (0, 0, [0], 0, 0, [0])) ++ (jstsN [] ++ (lnk (lnk (List.replicate 32 0) (secN (0, 0, [0], 0, 0, [0]))) (jstsN []) ++ [])))))) = _
  rw [e, e2, e3, alc]
  simp only [List.append_assoc, List.append_nil, List.cons_append, List.nil_append]
set_option maxHeartbeats 8000000 in
theorem awake19 : CallW Tryd.prog (Gk (some tz) KEYS) 43 [] [] (fun r st' => r = .i (.bool true) ∧ st' = []) := by
  refine call_of_bodyF 0 (Nat.le_refl _) Tryd.func43 rfl (fun a w => Tryd.call43 a w) (wpx_ok (own := own0) _ _ _ ?_)
  have cw := ccwrite45 ct0 okT0
  rw [if_pos chk0, chk0, cert0] at cw
  have hE := lnk_len (List.replicate 32 0) [0, 0, 0, 0, 1, 0, 0]
  generalize lnk (List.replicate 32 0) [0, 0, 0, 0, 1, 0, 0] = E at cw hE
  have hF := lnk_len E [0]
  generalize lnk E [0] = F at cw hF
  obtain ⟨e0, e1, e2, e3, e4, e5, e6, e7, e8, e9, e10, e11, e12, e13, e14, e15, e16, e17, e18, e19, e20, e21, e22, e23, e24, e25, e26, e27, e28, e29, e30, e31, rfl⟩ := list32 hE
  obtain ⟨f0, f1, f2, f3, f4, f5, f6, f7, f8, f9, f10, f11, f12, f13, f14, f15, f16, f17, f18, f19, f20, f21, f22, f23, f24, f25, f26, f27, f28, f29, f30, f31, rfl⟩ := list32 hF
  have cw2 : CallW Tryd.prog (Gk (some tz) KEYS) 45 [.agg (((List.replicate 32 0).map fun n : Nat => V.i (.int .u8 n)) ++ [.i (.sl [encSec (0, 0, [0], 0, 0, [0])]), .nils])] [] (fun r st' => r = ckV ([97, 108, 99, 49] ++ List.replicate 32 0 ++ [1, 0, 0, 0, 0, 1, 0, 0] ++ ([e0, e1, e2, e3, e4, e5, e6, e7, e8, e9, e10, e11, e12, e13, e14, e15, e16, e17, e18, e19, e20, e21, e22, e23, e24, e25, e26, e27, e28, e29, e30, e31] ++ ([0] ++ [f0, f1, f2, f3, f4, f5, f6, f7, f8, f9, f10, f11, f12, f13, f14, f15, f16, f17, f18, f19, f20, f21, f22, f23, f24, f25, f26, f27, f28, f29, f30, f31]))) 0 ∧ st' = []) := cw.nd rfl
  repeat ((conv => whnf); first | refine Br.t ?_ | refine Br.f ?_ | refine ⟨rfl, ?_⟩)
  conv => whnf
  refine CallW.mono (cw2.pure _ rfl rfl) ?_
  rintro r st' ⟨rfl, rfl⟩
  simp only [ckV]
  repeat ((conv => whnf); first | refine Br.t ?_ | refine Br.f ?_ | refine ⟨rfl, ?_⟩)
  conv => whnf
  refine ⟨⟨by decide, by decide, by show (4 : Int) ≤ ((109 : Nat) : Int); decide, bytes_one _⟩, ?_⟩
  repeat ((conv => whnf); first | refine Br.t ?_ | refine Br.f ?_ | refine ⟨rfl, ?_⟩)
  conv => whnf
  refine ⟨isB_ok (isB_map [97, 108, 99, 49]), ?_⟩
  repeat ((conv => whnf); first | refine Br.t ?_ | refine Br.f ?_ | refine ⟨rfl, ?_⟩)
  conv => whnf
  refine ⟨⟨by decide, by decide, by show (44 : Int) ≤ ((109 : Nat) : Int); decide, bytes_one _⟩, ?_⟩
  repeat ((conv => whnf); first | refine Br.t ?_ | refine Br.f ?_ | refine ⟨rfl, ?_⟩)
  conv => whnf
  refine ⟨isB_ok (isB_map [1, 0, 0, 0, 0, 1, 0, 0]), ?_⟩
  repeat ((conv => whnf); first | refine Br.t ?_ | refine Br.f ?_ | refine ⟨rfl, ?_⟩)
  conv => whnf
  refine fin (target := []) rfl (Nat.zero_le _) (by simp) rfl rfl
theorem okT_of {c : Ct} (h1 : c.d.length = 32) (h2 : ∀ x ∈ c.d, x < 256) (h3 : c.ss.length ≤ 9223372036854775807) (h4 : c.js.length ≤ 9223372036854775807) (h5 : ∀ s ∈ c.ss, s.1 < 4294967296 ∧ s.2.1 < 4294967296 ∧ (∀ m ∈ s.2.2.1, m < 4294967296) ∧ s.2.2.2.1 < 4294967296 ∧ s.2.2.2.2.1 < 4294967296 ∧ (∀ m ∈ s.2.2.2.2.2, m < 4294967296)) (hf : fewB c = true) : OkT c := by
  unfold fewB at hf
  simp only [Bool.and_eq_true, decide_eq_true_eq, List.all_eq_true] at hf
  refine ⟨h1, h2, h3, h4, fun s hs => ?_⟩
  obtain ⟨k1, k2, k3, k4, k5, k6⟩ := h5 s hs
  obtain ⟨q1, q2⟩ := hf.2 s hs
  exact ⟨k1, k2, ⟨by omega, k3⟩, k4, k5, ⟨by omega, k6⟩⟩
def okM (c : Ct) : Prop := ∀ s ∈ c.ss, s.1 < 4294967296 ∧ s.2.1 < 4294967296 ∧ (∀ m ∈ s.2.2.1, m < 4294967296) ∧ s.2.2.2.1 < 4294967296 ∧ s.2.2.2.2.1 < 4294967296 ∧ (∀ m ∈ s.2.2.2.2.2, m < 4294967296)
set_option maxHeartbeats 8000000 in
theorem ccodewrites (c : Ct) (h1 : c.d.length = 32) (h2 : ∀ x ∈ c.d, x < 256) (h3 : c.ss.length ≤ 9223372036854775807) (h4 : c.js.length ≤ 9223372036854775807) (h5 : okM c) :
    CallW Tryd.prog (Gk (some tz) KEYS) 8 [ctV c] [] (fun r st' => r = .i (.bool true) ∧ st' = []) := by
  refine call_of_bodyF 0 (Nat.le_refl _) Tryd.func8 rfl (fun a w => Tryd.call8 a w) (wpx_ok (own := own0) _ _ _ ?_)
  have okF := okT_of h1 h2 h3 h4 h5
  have cf := few44 c h1 h3 h4
  have cw := fun hf => ccwrite45 c (okF hf)
  have ck := fun hf => check46 c (okF hf)
  have cr := fun hf ok => refcwrite c (okF hf) ok
  obtain ⟨d, ss, js⟩ := c
  simp only at h1
  obtain ⟨d0, d1, d2, d3, d4, d5, d6, d7, d8, d9, d10, d11, d12, d13, d14, d15, d16, d17, d18, d19, d20, d21, d22, d23, d24, d25, d26, d27, d28, d29, d30, d31, hd⟩ := list32 h1
  replace hd : d = l32 d0 d1 d2 d3 d4 d5 d6 d7 d8 d9 d10 d11 d12 d13 d14 d15 d16 d17 d18 d19 d20 d21 d22 d23 d24 d25 d26 d27 d28 d29 d30 d31 := hd
  subst hd
  clear okF h1 h2 h3 h4 h5
  obtain ⟨⟨pos, code⟩, hr⟩ : ∃ r, r = chkT ⟨l32 d0 d1 d2 d3 d4 d5 d6 d7 d8 d9 d10 d11 d12 d13 d14 d15 d16 d17 d18 d19 d20 d21 d22 d23 d24 d25 d26 d27 d28 d29 d30 d31, ss, js⟩ := ⟨_, rfl⟩
  have okc : code = 0 → CtOk ⟨l32 d0 d1 d2 d3 d4 d5 d6 d7 d8 d9 d10 d11 d12 d13 d14 d15 d16 d17 d18 d19 d20 d21 d22 d23 d24 d25 d26 d27 d28 d29 d30 d31, ss, js⟩ := fun g => chkT_zero (by rw [← hr]; exact g)
  rw [← hr] at cw ck
  obtain ⟨X, hX⟩ : ∃ X, X = certN ⟨l32 d0 d1 d2 d3 d4 d5 d6 d7 d8 d9 d10 d11 d12 d13 d14 d15 d16 d17 d18 d19 d20 d21 d22 d23 d24 d25 d26 d27 d28 d29 d30 d31, ss, js⟩ := ⟨_, rfl⟩
  rw [← hX] at cw cr
  repeat ((conv => whnf); first | refine Br.t ?_ | refine Br.f ?_ | refine ⟨rfl, ?_⟩)
  conv => whnf
  refine CallW.mono (awake19.pure _ rfl rfl) ?_
  rintro r st' ⟨rfl, rfl⟩
  repeat ((conv => whnf); first | refine Br.t ?_ | refine Br.f ?_ | refine ⟨rfl, ?_⟩)
  conv => whnf
  refine CallW.mono (cf.glob.pure _ rfl rfl) ?_
  rintro r st' ⟨rfl, rfl⟩
  repeat ((conv => whnf); first | refine Br.t ?_ | refine Br.f ?_ | refine ⟨rfl, ?_⟩)
  conv => whnf
  refine Br.mk (fun z => ?_) (fun z => ?_)
  · repeat ((conv => whnf); first | refine Br.t ?_ | refine Br.f ?_ | refine ⟨rfl, ?_⟩)
    conv => whnf
    refine CallW.mono (awake19.pure _ rfl rfl) ?_
    rintro r st' ⟨rfl, rfl⟩
    repeat ((conv => whnf); first | refine Br.t ?_ | refine Br.f ?_ | refine ⟨rfl, ?_⟩)
    conv => whnf
    refine fin (target := []) rfl (Nat.zero_le _) (by simp) rfl rfl
  have hf : fewB ⟨l32 d0 d1 d2 d3 d4 d5 d6 d7 d8 d9 d10 d11 d12 d13 d14 d15 d16 d17 d18 d19 d20 d21 d22 d23 d24 d25 d26 d27 d28 d29 d30 d31, ss, js⟩ = true := by simpa using z
  repeat ((conv => whnf); first | refine Br.t ?_ | refine Br.f ?_ | refine ⟨rfl, ?_⟩)
  conv => whnf
  refine CallW.mono ((cw hf).pure _ rfl rfl) ?_
  rintro r st' ⟨rfl, rfl⟩
  simp only [ckV]
  repeat ((conv => whnf); first | refine Br.t ?_ | refine Br.f ?_ | refine ⟨rfl, ?_⟩)
  conv => whnf
  refine CallW.mono ((ck hf).glob.pure _ rfl rfl) ?_
  rintro r st' ⟨rfl, rfl⟩
  simp only [chkV]
  repeat ((conv => whnf); first | refine Br.t ?_ | refine Br.f ?_ | refine ⟨rfl, ?_⟩)
  conv => whnf
  refine Br.mk (fun g => ?_) (fun g => ?_)
  · have g : ¬ code = 0 := by simpa using g
    rw [if_neg g]
    repeat ((conv => whnf); first | refine Br.t ?_ | refine Br.f ?_ | refine ⟨rfl, ?_⟩)
    conv => whnf
    refine Br.mk (fun q => ?_) (fun q => ?_)
    · repeat ((conv => whnf); first | refine Br.t ?_ | refine Br.f ?_ | refine ⟨rfl, ?_⟩)
      conv => whnf
      refine fin (target := []) rfl (Nat.zero_le _) (by simp) rfl rfl
    · exact absurd q (by simp)
  · have g : code = 0 := by simpa using g
    have cr := cr hf (okc g)
    subst g
    repeat ((conv => whnf); first | refine Br.t ?_ | refine Br.f ?_ | refine ⟨rfl, ?_⟩)
    conv => whnf
    refine draw_ok (own := own0) [] [] [(.i (.sl (X.map by8)), [ctR ⟨l32 d0 d1 d2 d3 d4 d5 d6 d7 d8 d9 d10 d11 d12 d13 d14 d15 d16 d17 d18 d19 d20 d21 d22 d23 d24 d25 d26 d27 d28 d29 d30 d31, ss, js⟩])] rfl (by kernel_rfl) (Nat.zero_le _) ?_
    repeat ((conv => whnf); first | refine Br.t ?_ | refine Br.f ?_ | refine ⟨rfl, ?_⟩)
    conv => whnf
    refine ⟨isB_ok (isB_map X), ?_⟩
    repeat ((conv => whnf); first | refine Br.t ?_ | refine Br.f ?_ | refine ⟨rfl, ?_⟩)
    conv => whnf
    refine ⟨cr.glob.pure _ rfl rfl, ?_⟩
    repeat ((conv => whnf); first | refine Br.t ?_ | refine Br.f ?_ | refine ⟨rfl, ?_⟩)
    conv => whnf
    refine ⟨isB_ok (isB_map X), ?_⟩
    repeat ((conv => whnf); first | refine Br.t ?_ | refine Br.f ?_ | refine ⟨rfl, ?_⟩)
    conv => whnf
    refine ⟨by repeat ((conv => whnf); first | exact trivial | refine ⟨rfl, ?_⟩), trivial, ?_⟩
    conv => whnf
    repeat ((conv => whnf); first | refine Br.t ?_ | refine Br.f ?_ | refine ⟨rfl, ?_⟩)
    conv => whnf
    refine fin (target := []) rfl (Nat.zero_le _) (by simp) ?_ rfl
    simp
end Go.Proofs.YtdbmfnhbgacldaaDoor.Am

/- The table in its variable: what a row's condition gives for the logic. -/
namespace Go.Proofs.YtdbmfnhbgacldaaDoor.Am
open Go.ChangeShapes Go.WideShapes Go.RowKit
set_option autoImplicit false
set_option maxRecDepth 10000
/-- The de Bruijn table lies in its variable. -/
def TabOk (w : World) : Prop := ∀ j, j < 32 → w.cell? ⟨0, j, none⟩ = some (.int .u8 (Lib.deBruijn32tab.getD j 0))
theorem tab_ok {W : World} {rest : List (String × DataW Unit)} (h : laidMet Tryd.prog (("math/bits.deBruijn32tab", .agg ((Lib.deBruijn32tab.map fun (n : Nat) => (n : Int)).map fun z => .lit (.int .u8 z))) :: rest) W) : TabOk W := by
  have hT := Lib.tabIs_of_head (k := .u8) (zs := Lib.deBruijn32tab.map fun (n : Nat) => (n : Int)) (show Tryd.prog.globalNamed "math/bits.deBruijn32tab" = some 0 by kernel_rfl) rfl Tryd.underlying60 Tryd.underlying5 (by kernel_rfl) (by kernel_rfl) h
  intro j hj
  have := hT.cell (show Tryd.prog.globalNamed "math/bits.deBruijn32tab" = some 0 by kernel_rfl) j (by simpa [Lib.deBruijn32tab] using hj)
  rw [this]
  congr 2
  simp [List.getD_eq_getElem?_getD, List.getElem?_map]
  cases h : Lib.deBruijn32tab[j]? <;> simp
theorem gok_of_tab {W : World} (h : TabOk W) : GOk everyD G1 noMu [] W := by
  intro g cs hg
  unfold G1 at hg
  split at hg
  · rename_i h0
    subst h0
    cases hg
    refine ⟨inW_qd ?_, fun j => .int .u8 (Lib.deBruijn32tab.getD j 0), fun j v hj => ?_, fun j v hj => ?_⟩
    · exact World.block_lt_of_cell? W _ (h 0 (by decide))
    · have hlt := lt_of_get? hj
      exact h j (by simpa [tz, Lib.deBruijn32tab] using hlt)
    · simp only [tz, List.getElem?_map, Option.map_eq_some_iff] at hj
      obtain ⟨n, hn, rfl⟩ := hj
      have e : Lib.deBruijn32tab.getD j 0 = n := by rw [List.getD_eq_getElem?_getD, hn]; rfl
      show irel _ W (I.int .u8 n) (.int .u8 (Lib.deBruijn32tab.getD j 0 : Nat))
      rw [e]
      exact .int .u8 n
  · cases hg
end Go.Proofs.YtdbmfnhbgacldaaDoor.Am

/- The keys in their variable: what a row's condition gives for the logic. -/
namespace Go.Proofs.YtdbmfnhbgacldaaDoor.Am
open Go.ChangeShapes Go.WideShapes Go.RowKit
set_option autoImplicit false
set_option maxRecDepth 100000
/-- The keys lie in their variable. -/
def KeysOk (w : World) : Prop := ∀ j, j < 64 → w.cell? ⟨1, j, none⟩ = some (.int .u32 (KEYS.getD j 0))
theorem keys_ok {W : World} {rest : List (String × DataW Unit)} (h : laidMet Tryd.prog (("alibi/sha.keys", .agg ((KEYS.map fun (n : Nat) => (n : Int)).map fun z => .lit (.int .u32 z))) :: rest) W) : KeysOk W := by
  have hT := Lib.tabIs_of_head (k := .u32) (zs := KEYS.map fun (n : Nat) => (n : Int)) (show Tryd.prog.globalNamed "alibi/sha.keys" = some 1 by kernel_rfl) rfl Tryd.underlying156 Tryd.underlying28 (by kernel_rfl) (by kernel_rfl) h
  intro j hj
  have := hT.cell (show Tryd.prog.globalNamed "alibi/sha.keys" = some 1 by kernel_rfl) j (by simpa [KEYS_len] using hj)
  rw [this]
  congr 2
  simp [List.getD_eq_getElem?_getD, List.getElem?_map]
  cases h : KEYS[j]? <;> simp
theorem keys_rel {W : World} (h : KeysOk W) : inW W 1 ∧ ∃ xs : Nat → Value, (∀ j v, (KEYS.map u32I)[j]? = some v → W.cell? ⟨1, j, none⟩ = some (xs j)) ∧ ∀ j v, (KEYS.map u32I)[j]? = some v → irel (inW W) W v (xs j) := by
  refine ⟨World.block_lt_of_cell? W _ (h 0 (by decide)), fun j => .int .u32 (KEYS.getD j 0), fun j v hj => ?_, fun j v hj => ?_⟩
  · have hlt := lt_of_get? hj
    exact h j (by simpa [KEYS_len] using hlt)
  · simp only [List.getElem?_map, Option.map_eq_some_iff] at hj
    obtain ⟨n, hn, rfl⟩ := hj
    have e : KEYS.getD j 0 = n := by rw [List.getD_eq_getElem?_getD, hn]; rfl
    show irel _ W (I.int .u32 n) (.int .u32 (KEYS.getD j 0 : Nat))
    rw [e]
    exact .int .u32 n
theorem gok_of_keys {W : World} (h : KeysOk W) : GOk everyD (Gk none KEYS) noMu [] W := by
  intro g cs hg
  unfold Gk at hg
  split at hg
  · cases hg
  · split at hg
    · rename_i h0
      subst h0
      cases hg
      obtain ⟨h1, xs, h2, h3⟩ := keys_rel h
      refine ⟨inW_qd h1, fun j => .int .u32 (KEYS.getD j 0), fun j v hj => ?_, fun j v hj => ?_⟩
      · have hlt := lt_of_get? hj
        exact h j (by simpa [KEYS_len] using hlt)
      · simp only [List.getElem?_map, Option.map_eq_some_iff] at hj
        obtain ⟨n, hn, rfl⟩ := hj
        have e : KEYS.getD j 0 = n := by rw [List.getD_eq_getElem?_getD, hn]; rfl
        show irel _ W (I.int .u32 n) (.int .u32 (KEYS.getD j 0 : Nat))
        rw [e]
        exact .int .u32 n
    · cases hg
theorem gok_of_both {W : World} (ht : TabOk W) (h : KeysOk W) : GOk everyD (Gk (some tz) KEYS) noMu [] W := by
  intro g cs hg
  unfold Gk at hg
  split at hg
  · rename_i h0
    subst h0
    exact gok_of_tab ht 0 cs (by unfold G1; rw [if_pos rfl]; exact hg)
  · rename_i h0
    exact gok_of_keys h g cs (by unfold Gk; rw [if_neg h0]; exact hg)
end Go.Proofs.YtdbmfnhbgacldaaDoor.Am
