/- Contracts: which justifications may be; the document's check of justifications. -/
import Derived.Test.YtpbbkfekibmaiaaDoorGoC
namespace Go.Proofs.YtpbbkfekibmaiaaDoor.Am
set_option autoImplicit false
set_option linter.unusedVariables false
set_option linter.unusedSimpArgs false
set_option maxRecDepth 10000
set_option pp.maxSteps 3000
set_option pp.proofs false
theorem inB_mx {a b : Int} (h : inB a (mx1 b) = true) : 0 ≤ a ∧ (a < 1 ∨ a < b) := by
  unfold inB mx1 at h
  simp only [Bool.and_eq_true, decide_eq_true_eq] at h
  refine ⟨h.1, ?_⟩
  have := h.2
  split at this <;> omega
theorem may_acc {p : Pg} {n : Nd} {z : Int} (h : mayF p n z = true) (h12 : n.1 = 1 ∨ n.1 = 2) : 0 ≤ n.2.1 ∧ n.2.1 < p.g := by
  unfold mayF at h
  simp only [Bool.and_eq_true] at h
  have h1 := inB_mx h.1.1.2
  have h2 := h.1.1.1
  have e : ∀ k : Int, k = 1 ∨ k = 2 → (fieldsF p k z).1 = p.g ∧ (fieldsF p k z).2.2.2 = decide (p.g > 0) := by rintro k (rfl | rfl) <;> exact ⟨rfl, rfl⟩
  obtain ⟨e1, e2⟩ := e n.1 h12
  rw [e1] at h1
  rw [e2] at h2
  simp at h2
  omega
theorem rightR (j : Jst) (locks : Int) : CallW Tryd.prog G0 22 [jV j, .i (.int .i64 locks)] [] (fun r st' => r = .i (.bool (rightB j locks)) ∧ st' = []) := by
  refine call_of_bodyF 0 (Nat.le_refl _) Tryd.func22 rfl (fun a w => Tryd.call22 a w) (wpx_ok (own := own0) _ _ _ ?_)
  repeat ((conv => whnf); first | refine Br.t ?_ | refine Br.f ?_ | refine ⟨rfl, ?_⟩)
  conv => whnf
  refine Br.mk (fun h => ?_) (fun h => ?_)
  · have h : j.1 = 2 := by simpa using h
    have e : rightB j locks = (decide (0 ≤ j.2) && decide (j.2 < locks)) := by unfold rightB; rw [if_pos h]
    rw [e]
    repeat ((conv => whnf); first | refine Br.t ?_ | refine Br.f ?_ | refine ⟨rfl, ?_⟩)
    conv => whnf
    refine Br.mk (fun h1 => ?_) (fun h1 => ?_)
    · have h1 : 0 ≤ j.2 := by simpa using h1
      repeat ((conv => whnf); first | refine Br.t ?_ | refine Br.f ?_ | refine ⟨rfl, ?_⟩)
      conv => whnf
      refine fin (target := []) rfl (Nat.zero_le _) (by simp) ?_ rfl
      simp [h1]
    · have h1 : ¬ 0 ≤ j.2 := by simpa using h1
      repeat ((conv => whnf); first | refine Br.t ?_ | refine Br.f ?_ | refine ⟨rfl, ?_⟩)
      conv => whnf
      refine fin (target := []) rfl (Nat.zero_le _) (by simp) ?_ rfl
      simp [h1]
  have h : ¬ j.1 = 2 := by simpa using h
  have e : rightB j locks = (decide (0 ≤ j.1) && decide (j.1 < 2) && decide (j.2 = 0)) := by unfold rightB; rw [if_neg h]
  rw [e]
  repeat ((conv => whnf); first | refine Br.t ?_ | refine Br.f ?_ | refine ⟨rfl, ?_⟩)
  conv => whnf
  refine Br.mk (fun h1 => ?_) (fun h1 => ?_)
  · have h1 : 0 ≤ j.1 := by simpa using h1
    repeat ((conv => whnf); first | refine Br.t ?_ | refine Br.f ?_ | refine ⟨rfl, ?_⟩)
    conv => whnf
    refine Br.mk (fun h2 => ?_) (fun h2 => ?_)
    · have h2 : j.1 < 2 := by simpa using h2
      repeat ((conv => whnf); first | refine Br.t ?_ | refine Br.f ?_ | refine ⟨rfl, ?_⟩)
      conv => whnf
      refine fin (target := []) rfl (Nat.zero_le _) (by simp) ?_ rfl
      simp [h1, h2]
      rfl
    · have h2 : ¬ j.1 < 2 := by simpa using h2
      repeat ((conv => whnf); first | refine Br.t ?_ | refine Br.f ?_ | refine ⟨rfl, ?_⟩)
      conv => whnf
      refine fin (target := []) rfl (Nat.zero_le _) (by simp) ?_ rfl
      simp [h2]
  · have h1 : ¬ 0 ≤ j.1 := by simpa using h1
    repeat ((conv => whnf); first | refine Br.t ?_ | refine Br.f ?_ | refine ⟨rfl, ?_⟩)
    conv => whnf
    refine fin (target := []) rfl (Nat.zero_le _) (by simp) ?_ rfl
    simp [h1]
theorem rightP (j : Jst) (locks : Int) : CallW Tryd.prog G0 21 [jV j, .i (.int .i64 locks)] [] (fun r st' => r = .i (.bool (rightB j locks)) ∧ st' = []) := by
  refine call_of_bodyF 0 (Nat.le_refl _) Tryd.func21 rfl (fun a w => Tryd.call21 a w) (wpx_ok (own := own0) _ _ _ ?_)
  repeat ((conv => whnf); first | refine Br.t ?_ | refine Br.f ?_ | refine ⟨rfl, ?_⟩)
  conv => whnf
  refine Br.mk (fun h => ?_) (fun h => ?_)
  · have h : j.1 = 2 := by simpa using h
    have e : rightB j locks = (decide (0 ≤ j.2) && decide (j.2 < locks)) := by unfold rightB; rw [if_pos h]
    rw [e]
    repeat ((conv => whnf); first | refine Br.t ?_ | refine Br.f ?_ | refine ⟨rfl, ?_⟩)
    conv => whnf
    refine Br.mk (fun h1 => ?_) (fun h1 => ?_)
    · have h1 : 0 ≤ j.2 := by simpa using h1
      repeat ((conv => whnf); first | refine Br.t ?_ | refine Br.f ?_ | refine ⟨rfl, ?_⟩)
      conv => whnf
      refine fin (target := []) rfl (Nat.zero_le _) (by simp) ?_ rfl
      simp [h1]
    · have h1 : ¬ 0 ≤ j.2 := by simpa using h1
      repeat ((conv => whnf); first | refine Br.t ?_ | refine Br.f ?_ | refine ⟨rfl, ?_⟩)
      conv => whnf
      refine fin (target := []) rfl (Nat.zero_le _) (by simp) ?_ rfl
      simp [h1]
  have h : ¬ j.1 = 2 := by simpa using h
  have e : rightB j locks = (decide (0 ≤ j.1) && decide (j.1 < 2) && decide (j.2 = 0)) := by unfold rightB; rw [if_neg h]
  rw [e]
  repeat ((conv => whnf); first | refine Br.t ?_ | refine Br.f ?_ | refine ⟨rfl, ?_⟩)
  conv => whnf
  refine Br.mk (fun h1 => ?_) (fun h1 => ?_)
  · have h1 : j.1 = 0 := by simpa using h1
    repeat ((conv => whnf); first | refine Br.t ?_ | refine Br.f ?_ | refine ⟨rfl, ?_⟩)
    conv => whnf
    refine fin (target := []) rfl (Nat.zero_le _) (by simp) ?_ rfl
    simp [h1]
    rfl
  · have h1 : ¬ j.1 = 0 := by simpa using h1
    repeat ((conv => whnf); first | refine Br.t ?_ | refine Br.f ?_ | refine ⟨rfl, ?_⟩)
    conv => whnf
    refine Br.mk (fun h2 => ?_) (fun h2 => ?_)
    · have h2 : j.1 = 1 := by simpa using h2
      repeat ((conv => whnf); first | refine Br.t ?_ | refine Br.f ?_ | refine ⟨rfl, ?_⟩)
      conv => whnf
      refine fin (target := []) rfl (Nat.zero_le _) (by simp) ?_ rfl
      simp [h2]
      rfl
    · have h2 : ¬ j.1 = 1 := by simpa using h2
      repeat ((conv => whnf); first | refine Br.t ?_ | refine Br.f ?_ | refine ⟨rfl, ?_⟩)
      conv => whnf
      refine fin (target := []) rfl (Nat.zero_le _) (by simp) ?_ rfl
      have e3 : (decide (0 ≤ j.1) && decide (j.1 < 2)) = false := by
        by_cases a : 0 ≤ j.1
        · rw [decide_eq_false (show ¬ j.1 < 2 by omega), Bool.and_false]
        · rw [decide_eq_false a]; rfl
      rw [e3]
      rfl
theorem Le.slotsE {n : Nat} {sl sl' : List V} {st st' : List Ob} (h : leS sl sl') (e : st = st') : Le n ⟨sl, st⟩ ⟨sl', st'⟩ := by subst e; exact Le.slots h
abbrev Flt := Int × Int × Int
def fltC (f : Flt) : List V := [.i (.int .i64 f.1), .i (.int .i64 f.2.1), .i (.int .i64 f.2.2)]
def fltV (f : Flt) : V := .agg (fltC f)
def fltB (f : Flt) : Ob := .row 0 3 false [fltC f]
def rgtI (locks : Int) : Nat → List Jst → Option Nat
  | _, [] => none
  | g, j :: r => if rightB j locks = true then rgtI locks (g + 1) r else some g
def accX (js : List Jst) (s : Sec) (i : Nat) (n : Nd) : Bool := (decide (n.1 = 1) || decide (n.1 = 2)) && !holdsB (js.getD n.2.1.toNat (0, 0)) (decide (n.1 = 2)) ((shd s).getD i 0) ((slv s).getD i 0)
def accI (js : List Jst) (s : Sec) : Nat → List Nd → Option Nat
  | _, [] => none
  | i, n :: r => if accX js s i n = true then some i else accI js s (i + 1) r
def accJ (js : List Jst) : Nat → List (List Nd) → List Sec → Option (Nat × Nat)
  | f, L :: fs, s :: l => match accI js s 0 L with | some i => some (f, i) | none => accJ js (f + 1) fs l
  | _, _, _ => none
def gchk (p : Pg) (l : List Sec) (js : List Jst) : Flt :=
  if shapedB p l = false ∨ (js.length : Int) ≠ p.g then (-1, -1, 1) else match rgtI p.l 0 js with
  | some g => (-1, (g : Int), 8)
  | none => match accJ js 0 p.fs l with
    | some (f, i) => ((f : Int), (i : Int), 8)
    | none => (0, 0, 0)
theorem rgt_none {locks : Int} : ∀ {g : Nat} {js : List Jst}, rgtI locks g js = none → ∀ j ∈ js, rightB j locks = true
  | g, [], _ => by simp
  | g, j :: r, h => by
    rw [rgtI] at h
    split at h
    · intro k hk
      simp only [List.mem_cons] at hk
      rcases hk with rfl | hk
      · assumption
      · exact rgt_none h k hk
    · cases h
theorem right_lock {j : Jst} {locks : Int} (h : rightB j locks = true) (hl : locks ≤ 16) : j.1 = 2 → 0 ≤ j.2 ∧ j.2 < 32 := by
  intro h2
  unfold rightB at h
  rw [if_pos h2] at h
  simp only [Bool.and_eq_true, decide_eq_true_eq] at h
  omega
def gcS (l : List Sec) (js : List Jst) (x : List (Nat × V)) : List V := mkS 104 ([(1, .i (.sl (l.map encSec))), (2, .i (.sl (js.map encJ))), (3, .ptr 0 0 0 0), (6, .ptr 1 0 0 0)] ++ x)
theorem gcB_cl (p : Pg) (f : Flt) (m : Nat) : ∀ o ∈ [pgB p, fltB f], o.cl m := by
  intro o ho
  simp only [List.mem_cons, List.not_mem_nil, or_false] at ho
  rcases ho with rfl | rfl
  · exact pgB_cl p _
  · intro cs hcs; simp only [List.mem_singleton] at hcs; subst hcs; rfl
theorem gc_right (p : Pg) (l : List Sec) (js : List Jst) (hj : js.length ≤ 1000) (Q : Exit → S → Prop)
    (hbad : ∀ g, rgtI p.l 0 js = some g → Q .ret ⟨gcS l js [], [pgB p, fltB (-1, (g : Int), 8)]⟩) (hok : rgtI p.l 0 js = none → Q (.exit 0) ⟨gcS l js [], [pgB p, fltB (0, 0, 0)]⟩) :
    W Tryd.prog G0 0 (.loop (lp Tryd.f24 0)) Q ⟨gcS l js [(7, .i (.int .i64 0))], [pgB p, fltB (0, 0, 0)]⟩ := by
  refine W.weak (loop_ok (α := Nat) (fun g => ⟨gcS l js [(7, .i (.int .i64 g))], [pgB p, fltB (0, 0, 0)]⟩)
    (fun g => g ≤ js.length ∧ rgtI p.l g (js.drop g) = rgtI p.l 0 js) (fun g => js.length - g) 0 ⟨Nat.zero_le _, rfl⟩ (Le.refl _ _) (fun g hg => wpx_ok (own := own0) _ _ _ ?_))
  obtain ⟨h1, h2⟩ := hg
  repeat ((conv => whnf); first | refine Br.t ?_ | refine Br.f ?_ | refine ⟨rfl, ?_⟩)
  conv => whnf
  refine Br.mk (fun k => ?_) (fun k => ?_)
  · have k : g < js.length := by simpa using k
    obtain ⟨j, hje⟩ : ∃ j, j = js[g] := ⟨_, rfl⟩
    have ej : (js.map encJ).getD (g : Int).toNat [] = encJ j := by rw [hje]; exact getD_enc k
    have edj : js.drop g = j :: js.drop (g + 1) := by rw [hje]; exact List.drop_eq_getElem_cons k
    rw [edj, rgtI] at h2
    obtain ⟨q, hq⟩ : ∃ q, q = rightB j p.l := ⟨_, rfl⟩
    have cr := rightR j p.l
    rw [← hq] at cr h2
    repeat ((conv => whnf); first | refine Br.t ?_ | refine Br.f ?_ | refine ⟨rfl, ?_⟩)
    conv => whnf
    refine draw_ok (own := own0) [] [] [(.i (.bool q), [pgB p, fltB (0, 0, 0)])] rfl (by kernel_rfl) (Nat.zero_le _) ?_
    repeat ((conv => whnf); first | refine Br.t ?_ | refine Br.f ?_ | refine ⟨rfl, ?_⟩)
    conv => whnf
    rw [ej]
    refine ⟨⟨by omega, by simp; omega, rfl⟩, ?_⟩
    repeat ((conv => whnf); first | refine Br.t ?_ | refine Br.f ?_ | refine ⟨rfl, ?_⟩)
    conv => whnf
    refine ⟨cr.pure _ rfl rfl, ?_⟩
    repeat ((conv => whnf); first | refine Br.t ?_ | refine Br.f ?_ | refine ⟨rfl, ?_⟩)
    conv => whnf
    refine ⟨by repeat ((conv => whnf); first | exact trivial | refine ⟨rfl, ?_⟩), trivial, ?_⟩
    conv => whnf
    cases q with
    | true =>
      rw [if_pos rfl] at h2
      repeat ((conv => whnf); first | refine Br.t ?_ | refine Br.f ?_ | refine ⟨rfl, ?_⟩)
      conv => whnf
      refine ⟨g + 1, ⟨by omega, h2⟩, by omega, Le.slots ?_⟩
      simp [leS, mkS, gcS]
      exact i64_id (by omega) (by omega)
    | false =>
      rw [if_neg (by simp)] at h2
      repeat ((conv => whnf); first | refine Br.t ?_ | refine Br.f ?_ | refine ⟨rfl, ?_⟩)
      conv => whnf
      exact ⟨_, Le.slotsE (sl' := gcS l js []) (st' := [pgB p, fltB (-1, (g : Int), 8)]) (by simp [leS, mkS, gcS]) rfl, hbad g h2.symm⟩
  · have k : g = js.length := by simp at k; omega
    subst k
    rw [List.drop_length, rgtI] at h2
    repeat ((conv => whnf); first | refine Br.t ?_ | refine Br.f ?_ | refine ⟨rfl, ?_⟩)
    conv => whnf
    exact ⟨_, Le.slots (by simp [leS, mkS, gcS]), hok h2.symm⟩
end Go.Proofs.YtpbbkfekibmaiaaDoor.Am
