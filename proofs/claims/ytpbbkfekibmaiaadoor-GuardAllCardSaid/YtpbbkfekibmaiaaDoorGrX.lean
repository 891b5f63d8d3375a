/- Texts GqA GqB GqC GqD GqE GqF GrA GrB of this session, one behind the other. -/
import Derived.Test.YtpbbkfekibmaiaaDoorGoC
/- Contracts: which justifications may be; the document's check of justifications. -/
namespace Go.Proofs.YtpbbkfekibmaiaaDoor.Am
set_option autoImplicit false
set_option linter.unusedVariables false
set_option linter.unusedSimpArgs false
set_option maxRecDepth 10000
set_option pp.maxSteps 3000
set_option pp.proofs false
theorem inB_mx {a b : Int} (h : inB a (mx1 b) = true) : 0 ≤ a ∧ (a < 1 ∨ a < b) := by
  unfold inB mx1 at h
  simp only [Bool.and_eq_true, decide_eq_true_eq] at h
  refine ⟨h.1, ?_⟩
  have := h.2
  split at this <;> omega
theorem may_acc {p : Pg} {n : Nd} {z : Int} (h : mayF p n z = true) (h12 : n.1 = 1 ∨ n.1 = 2) : 0 ≤ n.2.1 ∧ n.2.1 < p.g := by
  unfold mayF at h
  simp only [Bool.and_eq_true] at h
  have h1 := inB_mx h.1.1.2
  have h2 := h.1.1.1
  have e : ∀ k : Int, k = 1 ∨ k = 2 → (fieldsF p k z).1 = p.g ∧ (fieldsF p k z).2.2.2 = decide (p.g > 0) := by rintro k (rfl | rfl) <;> exact ⟨rfl, rfl⟩
  obtain ⟨e1, e2⟩ := e n.1 h12
  rw [e1] at h1
  rw [e2] at h2
  simp at h2
  omega
theorem rightR (j : Jst) (locks : Int) : CallW Tryd.prog G0 22 [jV j, .i (.int .i64 locks)] [] (fun r st' => r = .i (.bool (rightB j locks)) ∧ st' = []) := by
  refine call_of_bodyF 0 (Nat.le_refl _) Tryd.func22 rfl (fun a w => Tryd.call22 a w) (wpx_ok (own := own0) _ _ _ ?_)
  repeat ((conv => whnf); first | refine Br.t ?_ | refine Br.f ?_ | refine ⟨rfl, ?_⟩)
  conv => whnf
  refine Br.mk (fun h => ?_) (fun h => ?_)
  · have h : j.1 = 2 := by simpa using h
    have e : rightB j locks = (decide (0 ≤ j.2) && decide (j.2 < locks)) := by unfold rightB; rw [if_pos h]
    rw [e]
    repeat ((conv => whnf); first | refine Br.t ?_ | refine Br.f ?_ | refine ⟨rfl, ?_⟩)
    conv => whnf
    refine Br.mk (fun h1 => ?_) (fun h1 => ?_)
    · have h1 : 0 ≤ j.2 := by simpa using h1
      repeat ((conv => whnf); first | refine Br.t ?_ | refine Br.f ?_ | refine ⟨rfl, ?_⟩)
      conv => whnf
      refine fin (target := []) rfl (Nat.zero_le _) (by simp) ?_ rfl
      simp [h1]
    · have h1 : ¬ 0 ≤ j.2 := by simpa using h1
      repeat ((conv => whnf); first | refine Br.t ?_ | refine Br.f ?_ | refine ⟨rfl, ?_⟩)
      conv => whnf
      refine fin (target := []) rfl (Nat.zero_le _) (by simp) ?_ rfl
      simp [h1]
  have h : ¬ j.1 = 2 := by simpa using h
  have e : rightB j locks = (decide (0 ≤ j.1) && decide (j.1 < 2) && decide (j.2 = 0)) := by unfold rightB; rw [if_neg h]
  rw [e]
  repeat ((conv => whnf); first | refine Br.t ?_ | refine Br.f ?_ | refine ⟨rfl, ?_⟩)
  conv => whnf
  refine Br.mk (fun h1 => ?_) (fun h1 => ?_)
  · have h1 : 0 ≤ j.1 := by simpa using h1
    repeat ((conv => whnf); first | refine Br.t ?_ | refine Br.f ?_ | refine ⟨rfl, ?_⟩)
    conv => whnf
    refine Br.mk (fun h2 => ?_) (fun h2 => ?_)
    · have h2 : j.1 < 2 := by simpa using h2
      repeat ((conv => whnf); first | refine Br.t ?_ | refine Br.f ?_ | refine ⟨rfl, ?_⟩)
      conv => whnf
      refine fin (target := []) rfl (Nat.zero_le _) (by simp) ?_ rfl
      simp [h1, h2]
      rfl
    · have h2 : ¬ j.1 < 2 := by simpa using h2
      repeat ((conv => whnf); first | refine Br.t ?_ | refine Br.f ?_ | refine ⟨rfl, ?_⟩)
      conv => whnf
      refine fin (target := []) rfl (Nat.zero_le _) (by simp) ?_ rfl
      simp [h2]
  · have h1 : ¬ 0 ≤ j.1 := by simpa using h1
    repeat ((conv => whnf); first | refine Br.t ?_ | refine Br.f ?_ | refine ⟨rfl, ?_⟩)
    conv => whnf
    refine fin (target := []) rfl (Nat.zero_le _) (by simp) ?_ rfl
    simp [h1]
theorem rightP (j : Jst) (locks : Int) : CallW Tryd.prog G0 21 [jV j, .i (.int .i64 locks)] [] (fun r st' => r = .i (.bool (rightB j locks)) ∧ st' = []) := by
  refine call_of_bodyF 0 (Nat.le_refl _) Tryd.func21 rfl (fun a w => Tryd.call21 a w) (wpx_ok (own := own0) _ _ _ ?_)
  repeat ((conv => whnf); first | refine Br.t ?_ | refine Br.f ?_ | refine ⟨rfl, ?_⟩)
  conv => whnf
  refine Br.mk (fun h => ?_) (fun h => ?_)
  · have h : j.1 = 2 := by simpa using h
    have e : rightB j locks = (decide (0 ≤ j.2) && decide (j.2 < locks)) := by unfold rightB; rw [if_pos h]
    rw [e]
    repeat ((conv => whnf); first | refine Br.t ?_ | refine Br.f ?_ | refine ⟨rfl, ?_⟩)
    conv => whnf
    refine Br.mk (fun h1 => ?_) (fun h1 => ?_)
    · have h1 : 0 ≤ j.2 := by simpa using h1
      repeat ((conv => whnf); first | refine Br.t ?_ | refine Br.f ?_ | refine ⟨rfl, ?_⟩)
      conv => whnf
      refine fin (target := []) rfl (Nat.zero_le _) (by simp) ?_ rfl
      simp [h1]
    · have h1 : ¬ 0 ≤ j.2 := by simpa using h1
      repeat ((conv => whnf); first | refine Br.t ?_ | refine Br.f ?_ | refine ⟨rfl, ?_⟩)
      conv => whnf
      refine fin (target := []) rfl (Nat.zero_le _) (by simp) ?_ rfl
      simp [h1]
  have h : ¬ j.1 = 2 := by simpa using h
  have e : rightB j locks = (decide (0 ≤ j.1) && decide (j.1 < 2) && decide (j.2 = 0)) := by unfold rightB; rw [if_neg h]
  rw [e]
  repeat ((conv => whnf); first | refine Br.t ?_ | refine Br.f ?_ | refine ⟨rfl, ?_⟩)
  conv => whnf
  refine Br.mk (fun h1 => ?_) (fun h1 => ?_)
  · have h1 : j.1 = 0 := by simpa using h1
    repeat ((conv => whnf); first | refine Br.t ?_ | refine Br.f ?_ | refine ⟨rfl, ?_⟩)
    conv => whnf
    refine fin (target := []) rfl (Nat.zero_le _) (by simp) ?_ rfl
    simp [h1]
    rfl
  · have h1 : ¬ j.1 = 0 := by simpa using h1
    repeat ((conv => whnf); first | refine Br.t ?_ | refine Br.f ?_ | refine ⟨rfl, ?_⟩)
    conv => whnf
    refine Br.mk (fun h2 => ?_) (fun h2 => ?_)
    · have h2 : j.1 = 1 := by simpa using h2
      repeat ((conv => whnf); first | refine Br.t ?_ | refine Br.f ?_ | refine ⟨rfl, ?_⟩)
      conv => whnf
      refine fin (target := []) rfl (Nat.zero_le _) (by simp) ?_ rfl
      simp [h2]
      rfl
    · have h2 : ¬ j.1 = 1 := by simpa using h2
      repeat ((conv => whnf); first | refine Br.t ?_ | refine Br.f ?_ | refine ⟨rfl, ?_⟩)
      conv => whnf
      refine fin (target := []) rfl (Nat.zero_le _) (by simp) ?_ rfl
      have e3 : (decide (0 ≤ j.1) && decide (j.1 < 2)) = false := by
        by_cases a : 0 ≤ j.1
        · rw [decide_eq_false (show ¬ j.1 < 2 by omega), Bool.and_false]
        · rw [decide_eq_false a]; rfl
      rw [e3]
      rfl
theorem Le.slotsE {n : Nat} {sl sl' : List V} {st st' : List Ob} (h : leS sl sl') (e : st = st') : Le n ⟨sl, st⟩ ⟨sl', st'⟩ := by subst e; exact Le.slots h
abbrev Flt := Int × Int × Int
def fltC (f : Flt) : List V := [.i (.int .i64 f.1), .i (.int .i64 f.2.1), .i (.int .i64 f.2.2)]
def fltV (f : Flt) : V := .agg (fltC f)
def fltB (f : Flt) : Ob := .row 0 3 false [fltC f]
def rgtI (locks : Int) : Nat → List Jst → Option Nat
  | _, [] => none
  | g, j :: r => if rightB j locks = true then rgtI locks (g + 1) r else some g
def accX (js : List Jst) (s : Sec) (i : Nat) (n : Nd) : Bool := (decide (n.1 = 1) || decide (n.1 = 2)) && !holdsB (js.getD n.2.1.toNat (0, 0)) (decide (n.1 = 2)) ((shd s).getD i 0) ((slv s).getD i 0)
def accI (js : List Jst) (s : Sec) : Nat → List Nd → Option Nat
  | _, [] => none
  | i, n :: r => if accX js s i n = true then some i else accI js s (i + 1) r
def accJ (js : List Jst) : Nat → List (List Nd) → List Sec → Option (Nat × Nat)
  | f, L :: fs, s :: l => match accI js s 0 L with | some i => some (f, i) | none => accJ js (f + 1) fs l
  | _, _, _ => none
def gchk (p : Pg) (l : List Sec) (js : List Jst) : Flt :=
  if shapedB p l = false ∨ (js.length : Int) ≠ p.g then (-1, -1, 1) else match rgtI p.l 0 js with
  | some g => (-1, (g : Int), 8)
  | none => match accJ js 0 p.fs l with
    | some (f, i) => ((f : Int), (i : Int), 8)
    | none => (0, 0, 0)
theorem rgt_none {locks : Int} : ∀ {g : Nat} {js : List Jst}, rgtI locks g js = none → ∀ j ∈ js, rightB j locks = true
  | g, [], _ => by simp
  | g, j :: r, h => by
    rw [rgtI] at h
    split at h
    · intro k hk
      simp only [List.mem_cons] at hk
      rcases hk with rfl | hk
      · assumption
      · exact rgt_none h k hk
    · cases h
theorem right_lock {j : Jst} {locks : Int} (h : rightB j locks = true) (hl : locks ≤ 16) : j.1 = 2 → 0 ≤ j.2 ∧ j.2 < 32 := by
  intro h2
  unfold rightB at h
  rw [if_pos h2] at h
  simp only [Bool.and_eq_true, decide_eq_true_eq] at h
  omega
def gcS (l : List Sec) (js : List Jst) (x : List (Nat × V)) : List V := mkS 104 ([(1, .i (.sl (l.map encSec))), (2, .i (.sl (js.map encJ))), (3, .ptr 0 0 0 0), (6, .ptr 1 0 0 0)] ++ x)
theorem gcB_cl (p : Pg) (f : Flt) (m : Nat) : ∀ o ∈ [pgB p, fltB f], o.cl m := by
  intro o ho
  simp only [List.mem_cons, List.not_mem_nil, or_false] at ho
  rcases ho with rfl | rfl
  · exact pgB_cl p _
  · intro cs hcs; simp only [List.mem_singleton] at hcs; subst hcs; rfl
theorem gc_right (p : Pg) (l : List Sec) (js : List Jst) (hj : js.length ≤ 1000) (Q : Exit → S → Prop)
    (hbad : ∀ g, rgtI p.l 0 js = some g → Q .ret ⟨gcS l js [], [pgB p, fltB (-1, (g : Int), 8)]⟩) (hok : rgtI p.l 0 js = none → Q (.exit 0) ⟨gcS l js [], [pgB p, fltB (0, 0, 0)]⟩) :
    W Tryd.prog G0 0 (.loop (lp Tryd.f24 0)) Q ⟨gcS l js [(7, .i (.int .i64 0))], [pgB p, fltB (0, 0, 0)]⟩ := by
  refine W.weak (loop_ok (α := Nat) (fun g => ⟨gcS l js [(7, .i (.int .i64 g))], [pgB p, fltB (0, 0, 0)]⟩)
    (fun g => g ≤ js.length ∧ rgtI p.l g (js.drop g) = rgtI p.l 0 js) (fun g => js.length - g) 0 ⟨Nat.zero_le _, rfl⟩ (Le.refl _ _) (fun g hg => wpx_ok (own := own0) _ _ _ ?_))
  obtain ⟨h1, h2⟩ := hg
  repeat ((conv => whnf); first | refine Br.t ?_ | refine Br.f ?_ | refine ⟨rfl, ?_⟩)
  conv => whnf
  refine Br.mk (fun k => ?_) (fun k => ?_)
  · have k : g < js.length := by simpa using k
    obtain ⟨j, hje⟩ : ∃ j, j = js[g] := ⟨_, rfl⟩
    have ej : (js.map encJ).getD (g : Int).toNat [] = encJ j := by rw [hje]; exact getD_enc k
    have edj : js.drop g = j :: js.drop (g + 1) := by rw [hje]; exact List.drop_eq_getElem_cons k
    rw [edj, rgtI] at h2
    obtain ⟨q, hq⟩ : ∃ q, q = rightB j p.l := ⟨_, rfl⟩
    have cr := rightR j p.l
    rw [← hq] at cr h2
    repeat ((conv => whnf); first | refine Br.t ?_ | refine Br.f ?_ | refine ⟨rfl, ?_⟩)
    conv => whnf
    refine draw_ok (own := own0) [] [] [(.i (.bool q), [pgB p, fltB (0, 0, 0)])] rfl (by kernel_rfl) (Nat.zero_le _) ?_
    repeat ((conv => whnf); first | refine Br.t ?_ | refine Br.f ?_ | refine ⟨rfl, ?_⟩)
    conv => whnf
    rw [ej]
    refine ⟨⟨by omega, by simp; omega, rfl⟩, ?_⟩
    repeat ((conv => whnf); first | refine Br.t ?_ | refine Br.f ?_ | refine ⟨rfl, ?_⟩)
    conv => whnf
    refine ⟨cr.pure _ rfl rfl, ?_⟩
    repeat ((conv => whnf); first | refine Br.t ?_ | refine Br.f ?_ | refine ⟨rfl, ?_⟩)
    conv => whnf
    refine ⟨by repeat ((conv => whnf); first | exact trivial | refine ⟨rfl, ?_⟩), trivial, ?_⟩
    conv => whnf
    cases q with
    | true =>
      rw [if_pos rfl] at h2
      repeat ((conv => whnf); first | refine Br.t ?_ | refine Br.f ?_ | refine ⟨rfl, ?_⟩)
      conv => whnf
      refine ⟨g + 1, ⟨by omega, h2⟩, by omega, Le.slots ?_⟩
      simp [leS, mkS, gcS]
      exact i64_id (by omega) (by omega)
    | false =>
      rw [if_neg (by simp)] at h2
      repeat ((conv => whnf); first | refine Br.t ?_ | refine Br.f ?_ | refine ⟨rfl, ?_⟩)
      conv => whnf
      exact ⟨_, Le.slotsE (sl' := gcS l js []) (st' := [pgB p, fltB (-1, (g : Int), 8)]) (by simp [leS, mkS, gcS]) rfl, hbad g h2.symm⟩
  · have k : g = js.length := by simp at k; omega
    subst k
    rw [List.drop_length, rgtI] at h2
    repeat ((conv => whnf); first | refine Br.t ?_ | refine Br.f ?_ | refine ⟨rfl, ?_⟩)
    conv => whnf
    exact ⟨_, Le.slots (by simp [leS, mkS, gcS]), hok h2.symm⟩
end Go.Proofs.YtpbbkfekibmaiaaDoor.Am

/- Contracts: the document's check of justifications, in full. -/
namespace Go.Proofs.YtpbbkfekibmaiaaDoor.Am
set_option autoImplicit false
set_option linter.unusedVariables false
set_option linter.unusedSimpArgs false
set_option maxRecDepth 10000
set_option pp.maxSteps 3000
set_option pp.proofs false
structure JsOk (p : Pg) (l : List Sec) (js : List Jst) : Prop where
  n : (js.length : Int) = p.g
  n16 : js.length ≤ 16
  lk : ∀ j ∈ js, j.1 = 2 → 0 ≤ j.2 ∧ j.2 < 32
theorem js_get {js : List Jst} {a : Nat} (h : a < js.length) : ∃ j, js.getD a (0, 0) = j ∧ j ∈ js ∧ (js.map encJ).getD (a : Int).toNat [] = encJ j := by
  refine ⟨js[a], ?_, List.getElem_mem _, ?_⟩
  · simp [List.getD_eq_getElem?_getD, h]
  · exact getD_enc h
theorem u32_get {l : List Nat} {i : Nat} (h : i < l.length) : (l.map el32).getD (i : Int).toNat [] = el32 (l.getD i 0) := by
  rw [Int.toNat_natCast]
  simp [List.getD_eq_getElem?_getD, h, el32]
theorem u32_lt {l : List Nat} (h : ∀ m ∈ l, m < 4294967296) (i : Nat) : l.getD i 0 < 4294967296 := by
  rw [List.getD_eq_getElem?_getD]
  cases hi : l[i]? with
  | none => simp
  | some x => exact h x (List.mem_of_getElem? hi)
def ndC (y : Nd) : Ob := .row 0 4 false [(encNd y).map .i]
set_option maxHeartbeats 2000000 in
theorem gc_node (p : Pg) (l : List Sec) (js : List Jst) (hj : JsOk p l js) (f : Nat) (L : List Nd) (s : Sec) (hf : f < p.fs.length) (hfl : p.fs.length ≤ 40) (hfs : f < l.length) (hll : l.length ≤ 40)
    (eL : (p.fs.map encF).getD (f : Int).toNat [] = encF L) (es : (l.map encSec).getD (f : Int).toNat [] = encSec s) (hLl : L.length ≤ 100) (hs : okSec s) (hs1 : (shd s).length = L.length) (hs2 : (slv s).length = L.length) (hmay : ∀ y ∈ L, mayF p y L.length = true) (Q : Exit → S → Prop)
    (hbad : ∀ i, accI js s 0 L = some i → Q .ret ⟨gcS l js [], [pgB p, fltB ((f : Int), (i : Int), 8)]⟩) (hok : accI js s 0 L = none → Q (.exit 4) ⟨gcS l js [(8, .i (.int .i64 f))], [pgB p, fltB (0, 0, 0)]⟩) :
    W Tryd.prog G0 0 (.loop (lp Tryd.f24 2)) Q ⟨gcS l js [(8, .i (.int .i64 f)), (9, .i (.int .i64 0))], [pgB p, fltB (0, 0, 0)]⟩ := by
  refine W.weak (loop_ok (α := Nat) (fun i => ⟨gcS l js [(8, .i (.int .i64 f)), (9, .i (.int .i64 i))], [pgB p, fltB (0, 0, 0)]⟩)
    (fun i => i ≤ L.length ∧ accI js s i (L.drop i) = accI js s 0 L) (fun i => L.length - i) 0 ⟨Nat.zero_le _, rfl⟩ (Le.refl _ _) (fun i hi => wpx_ok (own := own0) _ _ _ ?_))
  obtain ⟨h3, h4⟩ := hi
  repeat ((conv => whnf); first | refine Br.t ?_ | refine Br.f ?_ | refine ⟨rfl, ?_⟩)
  conv => whnf
  rw [eL]
  refine ⟨⟨by omega, by simp; omega, rfl⟩, ?_⟩
  repeat ((conv => whnf); first | refine Br.t ?_ | refine Br.f ?_ | refine ⟨rfl, ?_⟩)
  conv => whnf
  refine Br.mk (fun g1 => ?_) (fun g1 => ?_)
  · have g1 : i < L.length := by simpa using g1
    obtain ⟨y, hy⟩ : ∃ y, y = L[i] := ⟨_, rfl⟩
    have hym := hmay y (hy ▸ List.getElem_mem g1)
    have ey : (L.map encNd).getD (i : Int).toNat [] = encNd y := by rw [hy]; exact getD_enc g1
    have eyd : L.drop i = y :: L.drop (i + 1) := by rw [hy]; exact List.drop_eq_getElem_cons g1
    rw [eyd, accI] at h4
    have eh := u32_get (l := shd s) (i := i) (by omega)
    have el := u32_get (l := slv s) (i := i) (by omega)
    repeat ((conv => whnf); first | refine Br.t ?_ | refine Br.f ?_ | refine ⟨rfl, ?_⟩)
    conv => whnf
    rw [eL]
    refine ⟨⟨by omega, by simp; omega, rfl⟩, ?_⟩
    repeat ((conv => whnf); first | refine Br.t ?_ | refine Br.f ?_ | refine ⟨rfl, ?_⟩)
    conv => whnf
    rw [ey]
    refine ⟨⟨by omega, by simp; omega, rfl⟩, ?_⟩
    repeat ((conv => whnf); first | refine Br.t ?_ | refine Br.f ?_ | refine ⟨rfl, ?_⟩)
    conv => whnf
    by_cases kk : y.1 = 1 ∨ y.1 = 2
    · obtain ⟨a1, a2⟩ := may_acc hym kk
      have ea : ((y.2.1.toNat : Nat) : Int) = y.2.1 := by omega
      have hj16 := hj.n16
      obtain ⟨j, j1, j2, ej⟩ := js_get (js := js) (a := y.2.1.toNat) (by have := hj.n; omega)
      rw [ea] at ej
      obtain ⟨q, hq⟩ : ∃ q, q = holdsB j (y.1 == 2) ((shd s).getD i 0) ((slv s).getD i 0) := ⟨_, rfl⟩
      have cm := holdsR j (y.1 == 2) ((shd s).getD i 0) ((slv s).getD i 0) (u32_lt hs.1.2 i) (hj.lk j j2)
      rw [← hq] at cm
      have eX : accX js s i y = !q := by
        unfold accX
        rw [j1, hq]
        have : (decide (y.1 = 1) || decide (y.1 = 2)) = true := by rcases kk with h | h <;> simp [h]
        rw [this]; rfl
      rw [eX] at h4
      refine draw_ok (own := own0) [] [] [(.i (.bool q), [pgB p, fltB (0, 0, 0), ndC y])] rfl (by kernel_rfl) (Nat.zero_le _) ?_
      repeat ((conv => whnf); first | refine Br.t ?_ | refine Br.f ?_ | refine ⟨rfl, ?_⟩)
      conv => whnf
      refine Br.mk (fun k1 => ?_) (fun k1 => ?_)
      · repeat ((conv => whnf); first | refine Br.t ?_ | refine Br.f ?_ | refine ⟨rfl, ?_⟩)
        conv => whnf
        rw [ej]
        refine ⟨⟨by omega, by have := hj.n; have := hj.n16; simp; omega, rfl⟩, ?_⟩
        repeat ((conv => whnf); first | refine Br.t ?_ | refine Br.f ?_ | refine ⟨rfl, ?_⟩)
        conv => whnf
        rw [es]
        refine ⟨⟨by omega, by simp; omega, rfl⟩, ?_⟩
        repeat ((conv => whnf); first | refine Br.t ?_ | refine Br.f ?_ | refine ⟨rfl, ?_⟩)
        conv => whnf
        rw [eh]
        refine ⟨⟨by omega, by simp; omega, rfl⟩, ?_⟩
        repeat ((conv => whnf); first | refine Br.t ?_ | refine Br.f ?_ | refine ⟨rfl, ?_⟩)
        conv => whnf
        rw [es]
        refine ⟨⟨by omega, by simp; omega, rfl⟩, ?_⟩
        repeat ((conv => whnf); first | refine Br.t ?_ | refine Br.f ?_ | refine ⟨rfl, ?_⟩)
        conv => whnf
        rw [el]
        refine ⟨⟨by omega, by simp; omega, rfl⟩, ?_⟩
        repeat ((conv => whnf); first | refine Br.t ?_ | refine Br.f ?_ | refine ⟨rfl, ?_⟩)
        conv => whnf
        refine ⟨cm.pure _ rfl rfl, ?_⟩
        repeat ((conv => whnf); first | refine Br.t ?_ | refine Br.f ?_ | refine ⟨rfl, ?_⟩)
        conv => whnf
        refine ⟨by repeat ((conv => whnf); first | exact trivial | refine ⟨rfl, ?_⟩), trivial, ?_⟩
        conv => whnf
        cases q with
        | true =>
          rw [Bool.not_true, if_neg Bool.false_ne_true] at h4
          repeat ((conv => whnf); first | refine Br.t ?_ | refine Br.f ?_ | refine ⟨rfl, ?_⟩)
          conv => whnf
          refine ⟨i + 1, ⟨by omega, h4⟩, by omega, Le.back (fun _ => 0) (by intro id hid; rfl) (by simp) rfl (gcB_cl p _ _) ?_ rfl⟩
          simp [leS, mkS, gcS, V.up]
          exact i64_id (by omega) (by omega)
        | false =>
          rw [Bool.not_false, if_pos rfl] at h4
          repeat ((conv => whnf); first | refine Br.t ?_ | refine Br.f ?_ | refine ⟨rfl, ?_⟩)
          conv => whnf
          refine ⟨_, Le.back (s := ⟨gcS l js [], [pgB p, fltB ((f : Int), (i : Int), 8)]⟩) (fun _ => 0) (by intro id hid; rfl) (by simp) rfl (gcB_cl p _ _) ?_ rfl, hbad i h4.symm⟩
          simp [leS, mkS, gcS, V.up]
      · have k1 : ¬ y.1 = 1 := by simpa using k1
        repeat ((conv => whnf); first | refine Br.t ?_ | refine Br.f ?_ | refine ⟨rfl, ?_⟩)
        conv => whnf
        refine Br.mk (fun k2 => ?_) (fun k2 => by simp at k2; omega)
        repeat ((conv => whnf); first | refine Br.t ?_ | refine Br.f ?_ | refine ⟨rfl, ?_⟩)
        conv => whnf
        rw [ej]
        refine ⟨⟨by omega, by have := hj.n; have := hj.n16; simp; omega, rfl⟩, ?_⟩
        repeat ((conv => whnf); first | refine Br.t ?_ | refine Br.f ?_ | refine ⟨rfl, ?_⟩)
        conv => whnf
        rw [es]
        refine ⟨⟨by omega, by simp; omega, rfl⟩, ?_⟩
        repeat ((conv => whnf); first | refine Br.t ?_ | refine Br.f ?_ | refine ⟨rfl, ?_⟩)
        conv => whnf
        rw [eh]
        refine ⟨⟨by omega, by simp; omega, rfl⟩, ?_⟩
        repeat ((conv => whnf); first | refine Br.t ?_ | refine Br.f ?_ | refine ⟨rfl, ?_⟩)
        conv => whnf
        rw [es]
        refine ⟨⟨by omega, by simp; omega, rfl⟩, ?_⟩
        repeat ((conv => whnf); first | refine Br.t ?_ | refine Br.f ?_ | refine ⟨rfl, ?_⟩)
        conv => whnf
        rw [el]
        refine ⟨⟨by omega, by simp; omega, rfl⟩, ?_⟩
        repeat ((conv => whnf); first | refine Br.t ?_ | refine Br.f ?_ | refine ⟨rfl, ?_⟩)
        conv => whnf
        refine ⟨cm.pure _ rfl rfl, ?_⟩
        repeat ((conv => whnf); first | refine Br.t ?_ | refine Br.f ?_ | refine ⟨rfl, ?_⟩)
        conv => whnf
        refine ⟨by repeat ((conv => whnf); first | exact trivial | refine ⟨rfl, ?_⟩), trivial, ?_⟩
        conv => whnf
        cases q with
        | true =>
          rw [Bool.not_true, if_neg Bool.false_ne_true] at h4
          repeat ((conv => whnf); first | refine Br.t ?_ | refine Br.f ?_ | refine ⟨rfl, ?_⟩)
          conv => whnf
          refine ⟨i + 1, ⟨by omega, h4⟩, by omega, Le.back (fun _ => 0) (by intro id hid; rfl) (by simp) rfl (gcB_cl p _ _) ?_ rfl⟩
          simp [leS, mkS, gcS, V.up]
          exact i64_id (by omega) (by omega)
        | false =>
          rw [Bool.not_false, if_pos rfl] at h4
          repeat ((conv => whnf); first | refine Br.t ?_ | refine Br.f ?_ | refine ⟨rfl, ?_⟩)
          conv => whnf
          refine ⟨_, Le.back (s := ⟨gcS l js [], [pgB p, fltB ((f : Int), (i : Int), 8)]⟩) (fun _ => 0) (by intro id hid; rfl) (by simp) rfl (gcB_cl p _ _) ?_ rfl, hbad i h4.symm⟩
          simp [leS, mkS, gcS, V.up]
    · have eX : accX js s i y = false := by
        unfold accX
        have : (decide (y.1 = 1) || decide (y.1 = 2)) = false := by simp; omega
        rw [this]; rfl
      rw [eX, if_neg (by simp)] at h4
      refine draw_ok (own := own0) [] [] [] rfl (by kernel_rfl) (Nat.zero_le _) ?_
      repeat ((conv => whnf); first | refine Br.t ?_ | refine Br.f ?_ | refine ⟨rfl, ?_⟩)
      conv => whnf
      refine Br.mk (fun k1 => by simp at k1; omega) (fun k1 => ?_)
      repeat ((conv => whnf); first | refine Br.t ?_ | refine Br.f ?_ | refine ⟨rfl, ?_⟩)
      conv => whnf
      refine Br.mk (fun k1 => by simp at k1; omega) (fun k1 => ?_)
      repeat ((conv => whnf); first | refine Br.t ?_ | refine Br.f ?_ | refine ⟨rfl, ?_⟩)
      conv => whnf
      refine ⟨by repeat ((conv => whnf); first | exact trivial | refine ⟨rfl, ?_⟩), trivial, ?_⟩
      conv => whnf
      repeat ((conv => whnf); first | refine Br.t ?_ | refine Br.f ?_ | refine ⟨rfl, ?_⟩)
      conv => whnf
      refine ⟨i + 1, ⟨by omega, h4⟩, by omega, Le.back (fun _ => 0) (by intro id hid; rfl) (by simp) rfl (gcB_cl p _ _) ?_ rfl⟩
      simp [leS, mkS, gcS, V.up]
      exact i64_id (by omega) (by omega)
  · have g1 : i = L.length := by simp at g1; omega
    subst g1
    rw [List.drop_length, accI] at h4
    repeat ((conv => whnf); first | refine Br.t ?_ | refine Br.f ?_ | refine ⟨rfl, ?_⟩)
    conv => whnf
    exact ⟨_, Le.slots (by simp [leS, mkS, gcS]), hok h4.symm⟩
end Go.Proofs.YtpbbkfekibmaiaaDoor.Am

/- Contract: the document's check of justifications. -/
namespace Go.Proofs.YtpbbkfekibmaiaaDoor.Am
set_option autoImplicit false
set_option linter.unusedVariables false
set_option linter.unusedSimpArgs false
set_option maxRecDepth 10000
set_option pp.maxSteps 3000
set_option pp.proofs false
structure SecsOk (p : Pg) (l : List Sec) : Prop where
  fl : p.fs.length ≤ 16
  n : l.length = p.fs.length
  ok : ∀ s ∈ l, okSec s
  sh : ∀ f (h1 : f < l.length) (h2 : f < p.fs.length), (shd l[f]).length = (p.fs[f]).length ∧ (slv l[f]).length = (p.fs[f]).length
  w : ∀ f ∈ p.fs, f.length ≤ 100
  may : ∀ L ∈ p.fs, ∀ y ∈ L, mayF p y L.length = true
set_option maxHeartbeats 1000000 in
theorem gc_fn (p : Pg) (l : List Sec) (js : List Jst) (hj : JsOk p l js) (hs : SecsOk p l) (Q : Exit → S → Prop)
    (hbad : ∀ f i, accJ js 0 p.fs l = some (f, i) → Q .ret ⟨gcS l js [], [pgB p, fltB ((f : Int), (i : Int), 8)]⟩) (hok : accJ js 0 p.fs l = none → Q (.exit 2) ⟨gcS l js [], [pgB p, fltB (0, 0, 0)]⟩) :
    W Tryd.prog G0 0 (.loop (lp Tryd.f24 1)) Q ⟨gcS l js [(8, .i (.int .i64 0))], [pgB p, fltB (0, 0, 0)]⟩ := by
  refine W.weak (loop_ok (α := Nat) (fun f => ⟨gcS l js [(8, .i (.int .i64 f))], [pgB p, fltB (0, 0, 0)]⟩)
    (fun f => f ≤ p.fs.length ∧ accJ js f (p.fs.drop f) (l.drop f) = accJ js 0 p.fs l) (fun f => p.fs.length - f) 0 ⟨Nat.zero_le _, rfl⟩ (Le.refl _ _) (fun f hf => wpx_ok (own := own0) _ _ _ ?_))
  obtain ⟨h1, h2⟩ := hf
  have hfl := hs.fl
  have hn := hs.n
  repeat ((conv => whnf); first | refine Br.t ?_ | refine Br.f ?_ | refine ⟨rfl, ?_⟩)
  conv => whnf
  refine Br.mk (fun g => ?_) (fun g => ?_)
  · have g : f < p.fs.length := by simpa using g
    obtain ⟨q1, q2⟩ := hs.sh f (by omega) g
    obtain ⟨L, hL⟩ : ∃ L, L = p.fs[f] := ⟨_, rfl⟩
    obtain ⟨s, hse⟩ : ∃ s, s = l[f]'(by omega) := ⟨_, rfl⟩
    have hLm : L ∈ p.fs := hL ▸ List.getElem_mem g
    have hsm : s ∈ l := hse ▸ List.getElem_mem (by omega)
    have eL : (p.fs.map encF).getD (f : Int).toNat [] = encF L := by rw [hL]; exact getD_enc g
    have es : (l.map encSec).getD (f : Int).toNat [] = encSec s := by rw [hse]; exact getD_enc (by omega)
    have edr : p.fs.drop f = L :: p.fs.drop (f + 1) := by rw [hL]; exact List.drop_eq_getElem_cons g
    have eds : l.drop f = s :: l.drop (f + 1) := by rw [hse]; exact List.drop_eq_getElem_cons (by omega)
    rw [← hL, ← hse] at q1 q2
    rw [edr, eds, accJ] at h2
    repeat ((conv => whnf); first | refine Br.t ?_ | refine Br.f ?_ | refine ⟨rfl, ?_⟩)
    conv => whnf
    refine W.le (Le.slots (sl' := gcS l js [(8, .i (.int .i64 f)), (9, .i (.int .i64 0))]) (by simp [leS, mkS, gcS])) (gc_node p l js hj f L s g (by omega) (by omega) (by omega) eL es (hs.w L hLm) (hs.ok s hsm) q1 q2 (hs.may L hLm) _ (fun i hb => ?_) (fun hb => ?_))
    · rw [hb] at h2
      simp only at h2
      repeat ((conv => whnf); first | refine Br.t ?_ | refine Br.f ?_ | refine ⟨rfl, ?_⟩)
      conv => whnf
      exact ⟨_, Le.slots (by simp [leS, mkS, gcS]), hbad _ _ h2.symm⟩
    · rw [hb] at h2
      simp only at h2
      repeat ((conv => whnf); first | refine Br.t ?_ | refine Br.f ?_ | refine ⟨rfl, ?_⟩)
      conv => whnf
      refine ⟨f + 1, ⟨by omega, h2⟩, by omega, Le.slots ?_⟩
      simp [leS, mkS, gcS]
      exact i64_id (by omega) (by omega)
  · have g : f = p.fs.length := by simp at g; omega
    subst g
    rw [List.drop_length, accJ] at h2
    · repeat ((conv => whnf); first | refine Br.t ?_ | refine Br.f ?_ | refine ⟨rfl, ?_⟩)
      conv => whnf
      exact ⟨_, Le.slots (by simp [leS, mkS, gcS]), hok h2.symm⟩
    · intros; simp_all
set_option maxHeartbeats 1000000 in
theorem refgchk (p : Pg) (l : List Sec) (js : List Jst) (hfl : p.fs.length ≤ 16) (hll : l.length ≤ 40) (hjl : js.length ≤ 1000) (hg : p.g ≤ 16) (hlk : p.l ≤ 16)
    (hso : ∀ s ∈ l, okSec s) (hw : ∀ f ∈ p.fs, f.length ≤ 100) (hmay : ∀ L ∈ p.fs, ∀ y ∈ L, mayF p y L.length = true) :
    CallW Tryd.prog G0 24 [pgV p, .i (.sl (l.map encSec)), .i (.sl (js.map encJ))] [] (fun r st' => r = fltV (gchk p l js) ∧ st' = []) := by
  refine call_of_bodyF 0 (Nat.le_refl _) Tryd.func24 rfl (fun a w => Tryd.call24 a w) (wpx_ok (own := own0) _ _ _ ?_)
  have cs := shapedR p l hll
  obtain ⟨q, hq⟩ : ∃ q, q = shapedB p l := ⟨_, rfl⟩
  rw [← hq] at cs
  unfold gchk
  rw [← hq]
  repeat ((conv => whnf); first | refine Br.t ?_ | refine Br.f ?_ | refine ⟨rfl, ?_⟩)
  conv => whnf
  refine CallW.mono (cs.pure _ rfl rfl) ?_
  rintro r st' ⟨rfl, rfl⟩
  cases q with
  | false =>
    rw [if_pos (.inl rfl)]
    repeat ((conv => whnf); first | refine Br.t ?_ | refine Br.f ?_ | refine ⟨rfl, ?_⟩)
    conv => whnf
    refine fin (target := []) rfl (Nat.zero_le _) (by simp) rfl rfl
  | true =>
    repeat ((conv => whnf); first | refine Br.t ?_ | refine Br.f ?_ | refine ⟨rfl, ?_⟩)
    conv => whnf
    refine Br.mk (fun k => ?_) (fun k => ?_)
    · have k : (js.length : Int) ≠ p.g := by simpa using k
      rw [if_pos (.inr k)]
      repeat ((conv => whnf); first | refine Br.t ?_ | refine Br.f ?_ | refine ⟨rfl, ?_⟩)
      conv => whnf
      refine fin (target := []) rfl (Nat.zero_le _) (by simp) rfl rfl
    · have k : (js.length : Int) = p.g := by simpa using k
      rw [if_neg (by simp [k])]
      have hq := hq.symm
      unfold shapedB at hq
      simp only [Bool.and_eq_true, decide_eq_true_eq] at hq
      obtain ⟨q1, q2⟩ := hq
      repeat ((conv => whnf); first | refine Br.t ?_ | refine Br.f ?_ | refine ⟨rfl, ?_⟩)
      conv => whnf
      refine W.le (Le.slots (sl' := gcS l js [(7, .i (.int .i64 0))]) (by simp [leS, mkS, gcS])) (gc_right p l js hjl _ (fun g hr => ?_) (fun hr => ?_))
      · rw [hr]
        repeat ((conv => whnf); first | refine Br.t ?_ | refine Br.f ?_ | refine ⟨rfl, ?_⟩)
        conv => whnf
        refine fin (target := []) rfl (Nat.zero_le _) (by simp) rfl rfl
      · rw [hr]
        have hj : JsOk p l js := ⟨k, by omega, fun j hjm => right_lock (rgt_none hr j hjm) hlk⟩
        have hS : SecsOk p l := ⟨hfl, q1, hso, fun f a b => shG_get q2 f _ _ (List.getElem?_eq_getElem a) (List.getElem?_eq_getElem b), hw, hmay⟩
        repeat ((conv => whnf); first | refine Br.t ?_ | refine Br.f ?_ | refine ⟨rfl, ?_⟩)
        conv => whnf
        refine W.le (Le.slots (sl' := gcS l js [(8, .i (.int .i64 0))]) (by simp [leS, mkS, gcS])) (gc_fn p l js hj hS _ (fun f i hr => ?_) (fun hr => ?_))
        · rw [hr]
          repeat ((conv => whnf); first | refine Br.t ?_ | refine Br.f ?_ | refine ⟨rfl, ?_⟩)
          conv => whnf
          refine fin (target := []) rfl (Nat.zero_le _) (by simp) rfl rfl
        · rw [hr]
          repeat ((conv => whnf); first | refine Br.t ?_ | refine Br.f ?_ | refine ⟨rfl, ?_⟩)
          conv => whnf
          refine fin (target := []) rfl (Nat.zero_le _) (by simp) rfl rfl
end Go.Proofs.YtpbbkfekibmaiaaDoor.Am

/- Contracts: the program's check of justifications. -/
namespace Go.Proofs.YtpbbkfekibmaiaaDoor.Am
set_option autoImplicit false
set_option linter.unusedVariables false
set_option linter.unusedSimpArgs false
set_option maxRecDepth 10000
set_option pp.maxSteps 3000
set_option pp.proofs false
set_option maxHeartbeats 1000000 in
theorem shapedP (p : Pg) (l : List Sec) (hl : l.length ≤ 40) : CallW Tryd.prog G0 34 [pgV p, .i (.sl (l.map encSec))] [] (fun r st' => r = .i (.bool (shapedB p l)) ∧ st' = []) := by
  refine call_of_bodyF 0 (Nat.le_refl _) Tryd.func34 rfl (fun a w => Tryd.call34 a w) (wpx_ok (own := own0) _ _ _ ?_)
  repeat ((conv => whnf); first | refine Br.t ?_ | refine Br.f ?_ | refine ⟨rfl, ?_⟩)
  conv => whnf
  refine Br.mk (fun h0 => ?_) (fun h0 => ?_)
  · have h0 : ¬ l.length = p.fs.length := by simp at h0; omega
    repeat ((conv => whnf); first | refine Br.t ?_ | refine Br.f ?_ | refine ⟨rfl, ?_⟩)
    conv => whnf
    refine fin (target := []) rfl (Nat.zero_le _) (by simp) ?_ rfl
    simp [shapedB, h0]
  · have h0 : l.length = p.fs.length := by simp at h0; omega
    have eB : shapedB p l = shG l p.fs := by simp [shapedB, h0]
    obtain ⟨R, hR⟩ : ∃ R, R = shG l p.fs := ⟨_, rfl⟩
    rw [eB, ← hR]
    repeat ((conv => whnf); first | refine Br.t ?_ | refine Br.f ?_ | refine ⟨rfl, ?_⟩)
    conv => whnf
    refine loop_ok (α := Nat) (fun f => ⟨mkS 43 [(2, .ptr 0 0 0 0), (4, .i (.bool false)), (13, .i (.sl (l.map encSec))), (14, .i (.int .i64 l.length)), (15, .i (.int .i64 f))], [pgB p]⟩)
      (fun f => f ≤ l.length ∧ shG (l.drop f) (p.fs.drop f) = R) (fun f => l.length - f) 0 ⟨Nat.zero_le _, hR.symm⟩
      (Le.slots (by simp [leS, mkS])) (fun f hf => wpx_ok (own := own0) _ _ _ ?_)
    obtain ⟨h1, h2⟩ := hf
    repeat ((conv => whnf); first | refine Br.t ?_ | refine Br.f ?_ | refine ⟨rfl, ?_⟩)
    conv => whnf
    refine Br.mk (fun g => ?_) (fun g => ?_)
    · have g : f < l.length := by simpa using g
      obtain ⟨L, hL⟩ : ∃ L, L = p.fs[f]'(by omega) := ⟨_, rfl⟩
      obtain ⟨s, hs⟩ : ∃ s, s = l[f] := ⟨_, rfl⟩
      have eL : (p.fs.map encF).getD (f : Int).toNat [] = encF L := by rw [hL]; exact getD_enc (by omega)
      have es : (l.map encSec).getD (f : Int).toNat [] = encSec s := by rw [hs]; exact getD_enc g
      have edr : p.fs.drop f = L :: p.fs.drop (f + 1) := by rw [hL]; exact List.drop_eq_getElem_cons (by omega)
      have eds : l.drop f = s :: l.drop (f + 1) := by rw [hs]; exact List.drop_eq_getElem_cons g
      rw [edr, eds, shG] at h2
      repeat ((conv => whnf); first | refine Br.t ?_ | refine Br.f ?_ | refine ⟨rfl, ?_⟩)
      conv => whnf
      rw [es]
      refine ⟨⟨by omega, by simp; omega, rfl⟩, ?_⟩
      repeat ((conv => whnf); first | refine Br.t ?_ | refine Br.f ?_ | refine ⟨rfl, ?_⟩)
      conv => whnf
      refine draw_ok (own := own0) [] [] [] rfl (by kernel_rfl) (Nat.zero_le _) ?_
      repeat ((conv => whnf); first | refine Br.t ?_ | refine Br.f ?_ | refine ⟨rfl, ?_⟩)
      conv => whnf
      rw [eL]
      refine ⟨⟨by omega, by simp; omega, rfl⟩, ?_⟩
      repeat ((conv => whnf); first | refine Br.t ?_ | refine Br.f ?_ | refine ⟨rfl, ?_⟩)
      conv => whnf
      refine Br.mk (fun k1 => ?_) (fun k1 => ?_)
      · have k1 : ¬ (shd s).length = L.length := by simp at k1; omega
        rw [if_neg (fun h => k1 h.1)] at h2
        subst h2
        repeat ((conv => whnf); first | refine Br.t ?_ | refine Br.f ?_ | refine ⟨rfl, ?_⟩)
        conv => whnf
        refine ⟨by repeat ((conv => whnf); first | exact trivial | refine ⟨rfl, ?_⟩), trivial, ?_⟩
        conv => whnf
        repeat ((conv => whnf); first | refine Br.t ?_ | refine Br.f ?_ | refine ⟨rfl, ?_⟩)
        conv => whnf
        refine fin (target := []) rfl (Nat.zero_le _) (by simp) rfl rfl
      · have k1 : (shd s).length = L.length := by simp at k1; omega
        repeat ((conv => whnf); first | refine Br.t ?_ | refine Br.f ?_ | refine ⟨rfl, ?_⟩)
        conv => whnf
        rw [eL]
        refine ⟨⟨by omega, by simp; omega, rfl⟩, ?_⟩
        repeat ((conv => whnf); first | refine Br.t ?_ | refine Br.f ?_ | refine ⟨rfl, ?_⟩)
        conv => whnf
        refine ⟨by repeat ((conv => whnf); first | exact trivial | refine ⟨rfl, ?_⟩), trivial, ?_⟩
        conv => whnf
        refine Br.mk (fun k2 => ?_) (fun k2 => ?_)
        · have k2 : ¬ (slv s).length = L.length := by simp at k2; omega
          rw [if_neg (fun h => k2 h.2)] at h2
          subst h2
          repeat ((conv => whnf); first | refine Br.t ?_ | refine Br.f ?_ | refine ⟨rfl, ?_⟩)
          conv => whnf
          refine fin (target := []) rfl (Nat.zero_le _) (by simp) rfl rfl
        · have k2 : (slv s).length = L.length := by simp at k2; omega
          rw [if_pos ⟨k1, k2⟩] at h2
          repeat ((conv => whnf); first | refine Br.t ?_ | refine Br.f ?_ | refine ⟨rfl, ?_⟩)
          conv => whnf
          refine ⟨f + 1, ⟨by omega, h2⟩, by omega, Le.back (fun _ => 0) (by intro id hid; rfl) (by simp) rfl ?_ ?_ ?_⟩
          · intro o ho
            simp only [List.mem_singleton] at ho
            subst ho
            exact pgB_cl p _
          · simp [leS, mkS, V.up]
            exact i64_id (by omega) (by omega)
          · rfl
    · have g : f = l.length := by simp at g; omega
      subst g
      rw [List.drop_length, shG] at h2
      subst h2
      repeat ((conv => whnf); first | refine Br.t ?_ | refine Br.f ?_ | refine ⟨rfl, ?_⟩)
      conv => whnf
      refine fin (target := []) rfl (Nat.zero_le _) (by simp) rfl rfl
      all_goals (intros; simp_all)
def gpS (l : List Sec) (js : List Jst) (x : List (Nat × V)) : List V := mkS 119 ([(1, .i (.sl (l.map encSec))), (2, .i (.sl (js.map encJ))), (3, .ptr 0 0 0 0), (6, .ptr 1 0 0 0), (7, .i (.int .i64 0))] ++ x)
def gpR (js : List Jst) (g : Nat) : List (Nat × V) := [(42, .i (.sl (js.map encJ))), (43, .i (.int .i64 js.length)), (44, .i (.int .i64 g))]
set_option maxHeartbeats 1000000 in
theorem gp_right (p : Pg) (l : List Sec) (js : List Jst) (hj : js.length ≤ 1000) (Q : Exit → S → Prop)
    (hbad : ∀ g, rgtI p.l 0 js = some g → Q .ret ⟨gpS l js [], [pgB p, fltB (-1, (g : Int), 8)]⟩) (hok : rgtI p.l 0 js = none → Q (.exit 0) ⟨gpS l js [], [pgB p, fltB (0, 0, 0)]⟩) :
    W Tryd.prog G0 0 (.loop (lp Tryd.f23 0)) Q ⟨gpS l js (gpR js 0), [pgB p, fltB (0, 0, 0)]⟩ := by
  refine W.weak (loop_ok (α := Nat) (fun g => ⟨gpS l js (gpR js g), [pgB p, fltB (0, 0, 0)]⟩)
    (fun g => g ≤ js.length ∧ rgtI p.l g (js.drop g) = rgtI p.l 0 js) (fun g => js.length - g) 0 ⟨Nat.zero_le _, rfl⟩ (Le.refl _ _) (fun g hg => wpx_ok (own := own0) _ _ _ ?_))
  obtain ⟨h1, h2⟩ := hg
  repeat ((conv => whnf); first | refine Br.t ?_ | refine Br.f ?_ | refine ⟨rfl, ?_⟩)
  conv => whnf
  refine Br.mk (fun k => ?_) (fun k => ?_)
  · have k : g < js.length := by simpa using k
    obtain ⟨j, hje⟩ : ∃ j, j = js[g] := ⟨_, rfl⟩
    have ej : (js.map encJ).getD (g : Int).toNat [] = encJ j := by rw [hje]; exact getD_enc k
    have edj : js.drop g = j :: js.drop (g + 1) := by rw [hje]; exact List.drop_eq_getElem_cons k
    rw [edj, rgtI] at h2
    obtain ⟨q, hq⟩ : ∃ q, q = rightB j p.l := ⟨_, rfl⟩
    have cr := rightP j p.l
    rw [← hq] at cr h2
    repeat ((conv => whnf); first | refine Br.t ?_ | refine Br.f ?_ | refine ⟨rfl, ?_⟩)
    conv => whnf
    rw [ej]
    refine ⟨⟨by omega, by simp; omega, rfl⟩, ?_⟩
    repeat ((conv => whnf); first | refine Br.t ?_ | refine Br.f ?_ | refine ⟨rfl, ?_⟩)
    conv => whnf
    refine CallW.mono (cr.pure _ rfl rfl) ?_
    rintro r st' ⟨rfl, rfl⟩
    cases q with
    | true =>
      rw [if_pos rfl] at h2
      repeat ((conv => whnf); first | refine Br.t ?_ | refine Br.f ?_ | refine ⟨rfl, ?_⟩)
      conv => whnf
      refine ⟨g + 1, ⟨by omega, h2⟩, by omega, Le.back (fun _ => 0) (by intro id hid; rfl) (by simp) rfl (gcB_cl p _ _) ?_ rfl⟩
      simp [leS, mkS, gpS, gpR, V.up]
      exact i64_id (by omega) (by omega)
    | false =>
      rw [if_neg (by simp)] at h2
      repeat ((conv => whnf); first | refine Br.t ?_ | refine Br.f ?_ | refine ⟨rfl, ?_⟩)
      conv => whnf
      refine ⟨_, Le.back (s := ⟨gpS l js [], [pgB p, fltB (-1, (g : Int), 8)]⟩) (fun _ => 0) (by intro id hid; rfl) (by simp) rfl (gcB_cl p _ _) ?_ rfl, hbad g h2.symm⟩
      simp [leS, mkS, gpS, gpR, V.up]
  · have k : g = js.length := by simp at k; omega
    subst k
    rw [List.drop_length, rgtI] at h2
    repeat ((conv => whnf); first | refine Br.t ?_ | refine Br.f ?_ | refine ⟨rfl, ?_⟩)
    conv => whnf
    exact ⟨_, Le.slots (by simp [leS, mkS, gpS, gpR]), hok h2.symm⟩
end Go.Proofs.YtpbbkfekibmaiaaDoor.Am

/- Contract: the program's check of justifications, in full. -/
namespace Go.Proofs.YtpbbkfekibmaiaaDoor.Am
set_option autoImplicit false
set_option linter.unusedVariables false
set_option linter.unusedSimpArgs false
set_option maxRecDepth 10000
set_option pp.maxSteps 3000
set_option pp.proofs false
def gpF (p : Pg) (f : Nat) : List (Nat × V) := [(58, .i (.sl (p.fs.map encF))), (59, .i (.int .i64 p.fs.length)), (60, .i (.int .i64 f))]
def gpN (f : Nat) (L : List Nd) (i : Nat) : List (Nat × V) := [(13, .i (.int .i64 f)), (65, .i (.sl (L.map encNd))), (66, .i (.int .i64 L.length)), (67, .i (.int .i64 i))]
set_option maxHeartbeats 2000000 in
theorem gp_node (p : Pg) (l : List Sec) (js : List Jst) (hj : JsOk p l js) (f : Nat) (L : List Nd) (s : Sec) (hf : f < p.fs.length) (hfl : p.fs.length ≤ 40) (hfs : f < l.length) (hll : l.length ≤ 40)
    (es : (l.map encSec).getD (f : Int).toNat [] = encSec s) (hLl : L.length ≤ 100) (hs : okSec s) (hs1 : (shd s).length = L.length) (hs2 : (slv s).length = L.length) (hmay : ∀ y ∈ L, mayF p y L.length = true) (Q : Exit → S → Prop)
    (hbad : ∀ i, accI js s 0 L = some i → Q .ret ⟨gpS l js [], [pgB p, fltB ((f : Int), (i : Int), 8)]⟩) (hok : accI js s 0 L = none → Q (.exit 4) ⟨gpS l js (gpF p f), [pgB p, fltB (0, 0, 0)]⟩) :
    W Tryd.prog G0 0 (.loop (lp Tryd.f23 2)) Q ⟨gpS l js (gpF p f ++ gpN f L 0), [pgB p, fltB (0, 0, 0)]⟩ := by
  refine W.weak (loop_ok (α := Nat) (fun i => ⟨gpS l js (gpF p f ++ gpN f L i), [pgB p, fltB (0, 0, 0)]⟩)
    (fun i => i ≤ L.length ∧ accI js s i (L.drop i) = accI js s 0 L) (fun i => L.length - i) 0 ⟨Nat.zero_le _, rfl⟩ (Le.refl _ _) (fun i hi => wpx_ok (own := own0) _ _ _ ?_))
  obtain ⟨h3, h4⟩ := hi
  repeat ((conv => whnf); first | refine Br.t ?_ | refine Br.f ?_ | refine ⟨rfl, ?_⟩)
  conv => whnf
  refine Br.mk (fun g1 => ?_) (fun g1 => ?_)
  · have g1 : i < L.length := by simpa using g1
    obtain ⟨y, hy⟩ : ∃ y, y = L[i] := ⟨_, rfl⟩
    have hym := hmay y (hy ▸ List.getElem_mem g1)
    have ey : (L.map encNd).getD (i : Int).toNat [] = encNd y := by rw [hy]; exact getD_enc g1
    have eyd : L.drop i = y :: L.drop (i + 1) := by rw [hy]; exact List.drop_eq_getElem_cons g1
    rw [eyd, accI] at h4
    have eh := u32_get (l := shd s) (i := i) (by omega)
    have el := u32_get (l := slv s) (i := i) (by omega)
    have ca := access29 y
    have cs := solo30 s hs i
    repeat ((conv => whnf); first | refine Br.t ?_ | refine Br.f ?_ | refine ⟨rfl, ?_⟩)
    conv => whnf
    rw [ey]
    refine ⟨⟨by omega, by simp; omega, rfl⟩, ?_⟩
    repeat ((conv => whnf); first | refine Br.t ?_ | refine Br.f ?_ | refine ⟨rfl, ?_⟩)
    conv => whnf
    by_cases kk : y.1 = 1 ∨ y.1 = 2
    · have ek : (decide (y.1 = 1) || decide (y.1 = 2)) = true := by rcases kk with h | h <;> simp [h]
      rw [ek] at ca
      obtain ⟨a1, a2⟩ := may_acc hym kk
      have ea : ((y.2.1.toNat : Nat) : Int) = y.2.1 := by omega
      have hj16 := hj.n16
      have hjn := hj.n
      obtain ⟨j, j1, j2, ej⟩ := js_get (js := js) (a := y.2.1.toNat) (by omega)
      rw [ea] at ej
      obtain ⟨q, hq⟩ : ∃ q, q = holdsB j (decide (y.1 = 2)) ((shd s).getD i 0) ((slv s).getD i 0) := ⟨_, rfl⟩
      have cm := holdsP j (decide (y.1 = 2)) ((shd s).getD i 0) ((slv s).getD i 0) (u32_lt hs.1.2 i) (hj.lk j j2)
      rw [← hq] at cm
      have eX : accX js s i y = !q := by
        unfold accX
        rw [j1, hq, ek]; rfl
      rw [eX] at h4
      refine CallW.mono (ca.pure _ rfl rfl) ?_
      rintro r st' ⟨rfl, rfl⟩
      obtain ⟨t, ht⟩ : ∃ t, t = soloB s i := ⟨_, rfl⟩
      rw [← ht] at cs
      cases t with
      | true =>
        have hq1 : q = true := by
          unfold soloB at ht
          have ht := ht.symm
          simp only [Bool.and_eq_true, decide_eq_true_eq] at ht
          rw [hq]; unfold holdsB; rw [decide_eq_true ht.2]; rfl
        subst hq1
        rw [Bool.not_true, if_neg Bool.false_ne_true] at h4
        repeat ((conv => whnf); first | refine Br.t ?_ | refine Br.f ?_ | refine ⟨rfl, ?_⟩)
        conv => whnf
        refine draw_ok (own := own0) [] [] [(.i (.bool true), [pgB p, fltB (0, 0, 0), ndC y])] rfl (by kernel_rfl) (Nat.zero_le _) ?_
        repeat ((conv => whnf); first | refine Br.t ?_ | refine Br.f ?_ | refine ⟨rfl, ?_⟩)
        conv => whnf
        rw [es]
        refine ⟨⟨by omega, by simp; omega, rfl⟩, ?_⟩
        repeat ((conv => whnf); first | refine Br.t ?_ | refine Br.f ?_ | refine ⟨rfl, ?_⟩)
        conv => whnf
        refine ⟨cs.pure _ rfl rfl, ?_⟩
        repeat ((conv => whnf); first | refine Br.t ?_ | refine Br.f ?_ | refine ⟨rfl, ?_⟩)
        conv => whnf
        refine ⟨by repeat ((conv => whnf); first | exact trivial | refine ⟨rfl, ?_⟩), trivial, ?_⟩
        conv => whnf
        repeat ((conv => whnf); first | refine Br.t ?_ | refine Br.f ?_ | refine ⟨rfl, ?_⟩)
        conv => whnf
        refine ⟨i + 1, ⟨by omega, h4⟩, by omega, Le.back (fun _ => 0) (by intro id hid; rfl) (by simp) rfl (gcB_cl p _ _) ?_ rfl⟩
        simp [leS, mkS, gpS, gpF, gpN, V.up]
        exact i64_id (by omega) (by omega)
      | false =>
        repeat ((conv => whnf); first | refine Br.t ?_ | refine Br.f ?_ | refine ⟨rfl, ?_⟩)
        conv => whnf
        refine draw_ok (own := own0) [] [] [(.i (.bool false), [pgB p, fltB (0, 0, 0), ndC y]), (.i (.bool q), [pgB p, fltB (0, 0, 0), ndC y])] rfl (by kernel_rfl) (Nat.zero_le _) ?_
        repeat ((conv => whnf); first | refine Br.t ?_ | refine Br.f ?_ | refine ⟨rfl, ?_⟩)
        conv => whnf
        rw [es]
        refine ⟨⟨by omega, by simp; omega, rfl⟩, ?_⟩
        repeat ((conv => whnf); first | refine Br.t ?_ | refine Br.f ?_ | refine ⟨rfl, ?_⟩)
        conv => whnf
        refine ⟨cs.pure _ rfl rfl, ?_⟩
        repeat ((conv => whnf); first | refine Br.t ?_ | refine Br.f ?_ | refine ⟨rfl, ?_⟩)
        conv => whnf
        rw [ej]
        refine ⟨⟨by omega, by simp; omega, rfl⟩, ?_⟩
        repeat ((conv => whnf); first | refine Br.t ?_ | refine Br.f ?_ | refine ⟨rfl, ?_⟩)
        conv => whnf
        rw [es]
        refine ⟨⟨by omega, by simp; omega, rfl⟩, ?_⟩
        repeat ((conv => whnf); first | refine Br.t ?_ | refine Br.f ?_ | refine ⟨rfl, ?_⟩)
        conv => whnf
        rw [eh]
        refine ⟨⟨by omega, by simp; omega, rfl⟩, ?_⟩
        repeat ((conv => whnf); first | refine Br.t ?_ | refine Br.f ?_ | refine ⟨rfl, ?_⟩)
        conv => whnf
        rw [es]
        refine ⟨⟨by omega, by simp; omega, rfl⟩, ?_⟩
        repeat ((conv => whnf); first | refine Br.t ?_ | refine Br.f ?_ | refine ⟨rfl, ?_⟩)
        conv => whnf
        rw [el]
        refine ⟨⟨by omega, by simp; omega, rfl⟩, ?_⟩
        repeat ((conv => whnf); first | refine Br.t ?_ | refine Br.f ?_ | refine ⟨rfl, ?_⟩)
        conv => whnf
        refine ⟨cm.pure _ rfl rfl, ?_⟩
        repeat ((conv => whnf); first | refine Br.t ?_ | refine Br.f ?_ | refine ⟨rfl, ?_⟩)
        conv => whnf
        refine ⟨by repeat ((conv => whnf); first | exact trivial | refine ⟨rfl, ?_⟩), trivial, ?_⟩
        conv => whnf
        cases q with
        | true =>
          rw [Bool.not_true, if_neg Bool.false_ne_true] at h4
          repeat ((conv => whnf); first | refine Br.t ?_ | refine Br.f ?_ | refine ⟨rfl, ?_⟩)
          conv => whnf
          refine ⟨i + 1, ⟨by omega, h4⟩, by omega, Le.back (fun _ => 0) (by intro id hid; rfl) (by simp) rfl (gcB_cl p _ _) ?_ rfl⟩
          simp [leS, mkS, gpS, gpF, gpN, V.up]
          exact i64_id (by omega) (by omega)
        | false =>
          rw [Bool.not_false, if_pos rfl] at h4
          repeat ((conv => whnf); first | refine Br.t ?_ | refine Br.f ?_ | refine ⟨rfl, ?_⟩)
          conv => whnf
          refine ⟨_, Le.back (s := ⟨gpS l js [], [pgB p, fltB ((f : Int), (i : Int), 8)]⟩) (fun _ => 0) (by intro id hid; rfl) (by simp) rfl (gcB_cl p _ _) ?_ rfl, hbad i h4.symm⟩
          simp [leS, mkS, gpS, gpF, gpN, V.up]
    · have ek : (decide (y.1 = 1) || decide (y.1 = 2)) = false := by simp; omega
      rw [ek] at ca
      have eX : accX js s i y = false := by
        unfold accX
        rw [ek]; rfl
      rw [eX, if_neg (by simp)] at h4
      refine CallW.mono (ca.pure _ rfl rfl) ?_
      rintro r st' ⟨rfl, rfl⟩
      repeat ((conv => whnf); first | refine Br.t ?_ | refine Br.f ?_ | refine ⟨rfl, ?_⟩)
      conv => whnf
      refine draw_ok (own := own0) [] [] [] rfl (by kernel_rfl) (Nat.zero_le _) ?_
      repeat ((conv => whnf); first | refine Br.t ?_ | refine Br.f ?_ | refine ⟨rfl, ?_⟩)
      conv => whnf
      refine ⟨by repeat ((conv => whnf); first | exact trivial | refine ⟨rfl, ?_⟩), trivial, ?_⟩
      conv => whnf
      repeat ((conv => whnf); first | refine Br.t ?_ | refine Br.f ?_ | refine ⟨rfl, ?_⟩)
      conv => whnf
      refine ⟨i + 1, ⟨by omega, h4⟩, by omega, Le.back (fun _ => 0) (by intro id hid; rfl) (by simp) rfl (gcB_cl p _ _) ?_ rfl⟩
      simp [leS, mkS, gpS, gpF, gpN, V.up]
      exact i64_id (by omega) (by omega)
  · have g1 : i = L.length := by simp at g1; omega
    subst g1
    rw [List.drop_length, accI] at h4
    repeat ((conv => whnf); first | refine Br.t ?_ | refine Br.f ?_ | refine ⟨rfl, ?_⟩)
    conv => whnf
    exact ⟨_, Le.slots (by simp [leS, mkS, gpS, gpF, gpN]), hok h4.symm⟩
set_option maxHeartbeats 1000000 in
theorem gp_fn (p : Pg) (l : List Sec) (js : List Jst) (hj : JsOk p l js) (hs : SecsOk p l) (Q : Exit → S → Prop)
    (hbad : ∀ f i, accJ js 0 p.fs l = some (f, i) → Q .ret ⟨gpS l js [], [pgB p, fltB ((f : Int), (i : Int), 8)]⟩) (hok : accJ js 0 p.fs l = none → Q (.exit 2) ⟨gpS l js [], [pgB p, fltB (0, 0, 0)]⟩) :
    W Tryd.prog G0 0 (.loop (lp Tryd.f23 1)) Q ⟨gpS l js (gpF p 0), [pgB p, fltB (0, 0, 0)]⟩ := by
  refine W.weak (loop_ok (α := Nat) (fun f => ⟨gpS l js (gpF p f), [pgB p, fltB (0, 0, 0)]⟩)
    (fun f => f ≤ p.fs.length ∧ accJ js f (p.fs.drop f) (l.drop f) = accJ js 0 p.fs l) (fun f => p.fs.length - f) 0 ⟨Nat.zero_le _, rfl⟩ (Le.refl _ _) (fun f hf => wpx_ok (own := own0) _ _ _ ?_))
  obtain ⟨h1, h2⟩ := hf
  have hfl := hs.fl
  have hn := hs.n
  repeat ((conv => whnf); first | refine Br.t ?_ | refine Br.f ?_ | refine ⟨rfl, ?_⟩)
  conv => whnf
  refine Br.mk (fun g => ?_) (fun g => ?_)
  · have g : f < p.fs.length := by simpa using g
    obtain ⟨q1, q2⟩ := hs.sh f (by omega) g
    obtain ⟨L, hL⟩ : ∃ L, L = p.fs[f] := ⟨_, rfl⟩
    obtain ⟨s, hse⟩ : ∃ s, s = l[f]'(by omega) := ⟨_, rfl⟩
    have hLm : L ∈ p.fs := hL ▸ List.getElem_mem g
    have hsm : s ∈ l := hse ▸ List.getElem_mem (by omega)
    have eL : (p.fs.map encF).getD (f : Int).toNat [] = encF L := by rw [hL]; exact getD_enc g
    have es : (l.map encSec).getD (f : Int).toNat [] = encSec s := by rw [hse]; exact getD_enc (by omega)
    have edr : p.fs.drop f = L :: p.fs.drop (f + 1) := by rw [hL]; exact List.drop_eq_getElem_cons g
    have eds : l.drop f = s :: l.drop (f + 1) := by rw [hse]; exact List.drop_eq_getElem_cons (by omega)
    rw [← hL, ← hse] at q1 q2
    rw [edr, eds, accJ] at h2
    repeat ((conv => whnf); first | refine Br.t ?_ | refine Br.f ?_ | refine ⟨rfl, ?_⟩)
    conv => whnf
    rw [eL]
    refine ⟨⟨by omega, by simp; omega, rfl⟩, ?_⟩
    repeat ((conv => whnf); first | refine Br.t ?_ | refine Br.f ?_ | refine ⟨rfl, ?_⟩)
    conv => whnf
    refine W.le (Le.slots (sl' := gpS l js (gpF p f ++ gpN f L 0)) (by simp [leS, mkS, gpS, gpF, gpN])) (gp_node p l js hj f L s g (by omega) (by omega) (by omega) es (hs.w L hLm) (hs.ok s hsm) q1 q2 (hs.may L hLm) _ (fun i hb => ?_) (fun hb => ?_))
    · rw [hb] at h2
      simp only at h2
      repeat ((conv => whnf); first | refine Br.t ?_ | refine Br.f ?_ | refine ⟨rfl, ?_⟩)
      conv => whnf
      exact ⟨_, Le.slots (by simp [leS, mkS, gpS]), hbad _ _ h2.symm⟩
    · rw [hb] at h2
      simp only at h2
      repeat ((conv => whnf); first | refine Br.t ?_ | refine Br.f ?_ | refine ⟨rfl, ?_⟩)
      conv => whnf
      refine ⟨f + 1, ⟨by omega, h2⟩, by omega, Le.slots ?_⟩
      simp [leS, mkS, gpS, gpF]
      exact i64_id (by omega) (by omega)
  · have g : f = p.fs.length := by simp at g; omega
    subst g
    rw [List.drop_length, accJ] at h2
    · repeat ((conv => whnf); first | refine Br.t ?_ | refine Br.f ?_ | refine ⟨rfl, ?_⟩)
      conv => whnf
      exact ⟨_, Le.slots (by simp [leS, mkS, gpS, gpF]), hok h2.symm⟩
    · intros; simp_all
end Go.Proofs.YtpbbkfekibmaiaaDoor.Am

/- Contract: the program's check of justifications; the law of it. -/
namespace Go.Proofs.YtpbbkfekibmaiaaDoor.Am
set_option autoImplicit false
set_option linter.unusedVariables false
set_option linter.unusedSimpArgs false
set_option maxRecDepth 10000
set_option pp.maxSteps 3000
set_option pp.proofs false
def gpc (p : Pg) (l : List Sec) (js : List Jst) : Flt × Int := if (chk p).2.2 = 0 then (gchk p l js, 0) else ((0, 0, 0), (chk p).2.2)
def gpV (r : Flt × Int) : V := .tup [fltV r.1, .i (.int .i64 r.2)]
set_option maxHeartbeats 1000000 in
theorem guardchk (p : Pg) (hp : okPg p) (l : List Sec) (js : List Jst) (hll : l.length ≤ 40) (hjl : js.length ≤ 1000) (hso : ∀ s ∈ l, okSec s) :
    CallW Tryd.prog G0 23 [pgV p, .i (.sl (l.map encSec)), .i (.sl (js.map encJ))] [] (fun r st' => r = gpV (gpc p l js) ∧ st' = []) := by
  refine call_of_bodyF 0 (Nat.le_refl _) Tryd.func23 rfl (fun a w => Tryd.call23 a w) (wpx_ok (own := own0) _ _ _ ?_)
  have ck := check31 p hp
  unfold gpc
  obtain ⟨c1, c2, c4, c3⟩ : ∃ a b c, chk p = (a, b, c) := ⟨_, _, _, rfl⟩
  rw [c3] at ck ⊢
  repeat ((conv => whnf); first | refine Br.t ?_ | refine Br.f ?_ | refine ⟨rfl, ?_⟩)
  conv => whnf
  refine CallW.mono (ck.pure _ rfl rfl) ?_
  rintro r st' ⟨rfl, rfl⟩
  repeat ((conv => whnf); first | refine Br.t ?_ | refine Br.f ?_ | refine ⟨rfl, ?_⟩)
  conv => whnf
  refine Br.mk (fun z => ?_) (fun z => ?_)
  · have z : c4 ≠ 0 := by simpa using z
    rw [if_neg z]
    repeat ((conv => whnf); first | refine Br.t ?_ | refine Br.f ?_ | refine ⟨rfl, ?_⟩)
    conv => whnf
    refine fin (target := []) rfl (Nat.zero_le _) (by simp) rfl rfl
  · have z : c4 = 0 := by simpa using z
    subst z
    have ok := chk_zero (p := p) (by rw [c3])
    rw [if_pos rfl]
    have cs := shapedP p l hll
    obtain ⟨q, hq⟩ : ∃ q, q = shapedB p l := ⟨_, rfl⟩
    rw [← hq] at cs
    unfold gchk
    rw [← hq]
    repeat ((conv => whnf); first | refine Br.t ?_ | refine Br.f ?_ | refine ⟨rfl, ?_⟩)
    conv => whnf
    refine CallW.mono (cs.pure _ rfl rfl) ?_
    rintro r st' ⟨rfl, rfl⟩
    cases q with
    | false =>
      rw [if_pos (.inl rfl)]
      repeat ((conv => whnf); first | refine Br.t ?_ | refine Br.f ?_ | refine ⟨rfl, ?_⟩)
      conv => whnf
      refine fin (target := []) rfl (Nat.zero_le _) (by simp) rfl rfl
    | true =>
      repeat ((conv => whnf); first | refine Br.t ?_ | refine Br.f ?_ | refine ⟨rfl, ?_⟩)
      conv => whnf
      refine Br.mk (fun k => ?_) (fun k => ?_)
      · have k : (js.length : Int) ≠ p.g := by simpa using k
        rw [if_pos (.inr k)]
        repeat ((conv => whnf); first | refine Br.t ?_ | refine Br.f ?_ | refine ⟨rfl, ?_⟩)
        conv => whnf
        refine fin (target := []) rfl (Nat.zero_le _) (by simp) rfl rfl
      · have k : (js.length : Int) = p.g := by simpa using k
        rw [if_neg (by simp [k])]
        have hq := hq.symm
        unfold shapedB at hq
        simp only [Bool.and_eq_true, decide_eq_true_eq] at hq
        obtain ⟨q1, q2⟩ := hq
        repeat ((conv => whnf); first | refine Br.t ?_ | refine Br.f ?_ | refine ⟨rfl, ?_⟩)
        conv => whnf
        refine W.le (Le.slots (sl' := gpS l js (gpR js 0)) (by simp [leS, mkS, gpS, gpR])) (gp_right p l js hjl _ (fun g hr => ?_) (fun hr => ?_))
        · rw [hr]
          repeat ((conv => whnf); first | refine Br.t ?_ | refine Br.f ?_ | refine ⟨rfl, ?_⟩)
          conv => whnf
          refine fin (target := []) rfl (Nat.zero_le _) (by simp) rfl rfl
        · rw [hr]
          have hj : JsOk p l js := ⟨k, by have := ok.g; omega, fun j hjm => right_lock (rgt_none hr j hjm) ok.l.2⟩
          have hS : SecsOk p l := ⟨ok.n.2, q1, hso, fun f a b => shG_get q2 f _ _ (List.getElem?_eq_getElem a) (List.getElem?_eq_getElem b), fun f hf => by have := ok.f f hf; omega, fun L hL => (ok.f L hL).2.2⟩
          repeat ((conv => whnf); first | refine Br.t ?_ | refine Br.f ?_ | refine ⟨rfl, ?_⟩)
          conv => whnf
          refine W.le (Le.slots (sl' := gpS l js (gpF p 0)) (by simp [leS, mkS, gpS, gpF])) (gp_fn p l js hj hS _ (fun f i hr => ?_) (fun hr => ?_))
          · rw [hr]
            repeat ((conv => whnf); first | refine Br.t ?_ | refine Br.f ?_ | refine ⟨rfl, ?_⟩)
            conv => whnf
            refine fin (target := []) rfl (Nat.zero_le _) (by simp) rfl rfl
          · rw [hr]
            repeat ((conv => whnf); first | refine Br.t ?_ | refine Br.f ?_ | refine ⟨rfl, ?_⟩)
            conv => whnf
            refine fin (target := []) rfl (Nat.zero_le _) (by simp) rfl rfl
set_option maxHeartbeats 2000000 in
theorem guardchecks (p : Pg) (hp : okPg p) (l : List Sec) (hl : l.length ≤ 9223372036854775807) (hs : ∀ s ∈ l, okSec s) (js : List Jst) (hjl : js.length ≤ 9223372036854775807) :
    CallW Tryd.prog G1 7 [pgV p, .i (.sl (l.map encSec)), .i (.sl (js.map encJ))] [] (fun r st' => r = .i (.bool true) ∧ st' = []) := by
  refine call_of_bodyF 0 (Nat.le_refl _) Tryd.func7 rfl (fun a w => Tryd.call7 a w) (wpx_ok (own := own0) _ _ _ ?_)
  repeat ((conv => whnf); first | refine Br.t ?_ | refine Br.f ?_ | refine ⟨rfl, ?_⟩)
  conv => whnf
  refine CallW.mono (awake9.pure _ rfl rfl) ?_
  rintro r st' ⟨rfl, rfl⟩
  repeat ((conv => whnf); first | refine Br.t ?_ | refine Br.f ?_ | refine ⟨rfl, ?_⟩)
  conv => whnf
  refine CallW.mono (((small16 p hp).glob).pure _ rfl rfl) ?_
  rintro r st' ⟨rfl, rfl⟩
  repeat ((conv => whnf); first | refine Br.t ?_ | refine Br.f ?_ | refine ⟨rfl, ?_⟩)
  conv => whnf
  refine Br.mk (fun z => ?_) (fun z => ?_)
  · repeat ((conv => whnf); first | refine Br.t ?_ | refine Br.f ?_ | refine ⟨rfl, ?_⟩)
    conv => whnf
    refine CallW.mono (awake9.pure _ rfl rfl) ?_
    rintro r st' ⟨rfl, rfl⟩
    repeat ((conv => whnf); first | refine Br.t ?_ | refine Br.f ?_ | refine ⟨rfl, ?_⟩)
    conv => whnf
    refine fin (target := []) rfl (Nat.zero_le _) (by simp) rfl rfl
  · have hsm : smallB p = true := by simpa using z
    unfold smallB at hsm
    simp only [Bool.and_eq_true, decide_eq_true_eq, List.all_eq_true] at hsm
    obtain ⟨b1, b2⟩ := hsm
    repeat ((conv => whnf); first | refine Br.t ?_ | refine Br.f ?_ | refine ⟨rfl, ?_⟩)
    conv => whnf
    refine CallW.mono (((few11 l hl hs).glob).pure _ rfl rfl) ?_
    rintro r st' ⟨rfl, rfl⟩
    repeat ((conv => whnf); first | refine Br.t ?_ | refine Br.f ?_ | refine ⟨rfl, ?_⟩)
    conv => whnf
    refine Br.mk (fun z2 => ?_) (fun z2 => ?_)
    · repeat ((conv => whnf); first | refine Br.t ?_ | refine Br.f ?_ | refine ⟨rfl, ?_⟩)
      conv => whnf
      refine CallW.mono (awake9.pure _ rfl rfl) ?_
      rintro r st' ⟨rfl, rfl⟩
      repeat ((conv => whnf); first | refine Br.t ?_ | refine Br.f ?_ | refine ⟨rfl, ?_⟩)
      conv => whnf
      refine fin (target := []) rfl (Nat.zero_le _) (by simp) rfl rfl
    · have hfw : fewB l = true := by simpa using z2
      unfold fewB at hfw
      simp only [Bool.and_eq_true, decide_eq_true_eq, List.all_eq_true] at hfw
      obtain ⟨b3, b4⟩ := hfw
      repeat ((conv => whnf); first | refine Br.t ?_ | refine Br.f ?_ | refine ⟨rfl, ?_⟩)
      conv => whnf
      refine Br.mk (fun z4 => ?_) (fun z4 => ?_)
      · repeat ((conv => whnf); first | refine Br.t ?_ | refine Br.f ?_ | refine ⟨rfl, ?_⟩)
        conv => whnf
        refine CallW.mono (awake9.pure _ rfl rfl) ?_
        rintro r st' ⟨rfl, rfl⟩
        repeat ((conv => whnf); first | refine Br.t ?_ | refine Br.f ?_ | refine ⟨rfl, ?_⟩)
        conv => whnf
        refine fin (target := []) rfl (Nat.zero_le _) (by simp) rfl rfl
      · have z4 : js.length ≤ 100 := by simp at z4; omega
        have cP := guardchk p hp l js b3 (by omega) hs
        have cC := refcheck p hp
        unfold gpc gpV at cP
        obtain ⟨c1, c2, c4, c3⟩ : ∃ a b c, chk p = (a, b, c) := ⟨_, _, _, rfl⟩
        rw [c3] at cP cC
        repeat ((conv => whnf); first | refine Br.t ?_ | refine Br.f ?_ | refine ⟨rfl, ?_⟩)
        conv => whnf
        by_cases z3 : c4 = 0
        · subst z3
          have ok := chk_zero (p := p) (by rw [c3])
          rw [if_pos rfl] at cP
          have cR := refgchk p l js ok.n.2 b3 (by omega) ok.g.2 ok.l.2 hs b2 (fun L hL => (ok.f L hL).2.2)
          obtain ⟨f1, f2, f3, hf⟩ : ∃ a b c, gchk p l js = (a, b, c) := ⟨_, _, _, rfl⟩
          rw [hf] at cP cR
          refine CallW.mono (cP.glob.pure _ rfl rfl) ?_
          rintro r st' ⟨rfl, rfl⟩
          repeat ((conv => whnf); first | refine Br.t ?_ | refine Br.f ?_ | refine ⟨rfl, ?_⟩)
          conv => whnf
          refine CallW.mono (cC.glob.pure _ rfl rfl) ?_
          rintro r st' ⟨rfl, rfl⟩
          repeat ((conv => whnf); first | refine Br.t ?_ | refine Br.f ?_ | refine ⟨rfl, ?_⟩)
          conv => whnf
          refine draw_ok (own := own0) [] [] [(fltV (f1, f2, f3), [pgB p, fltB (f1, f2, f3)])] rfl (by kernel_rfl) (Nat.zero_le _) ?_
          repeat ((conv => whnf); first | refine Br.t ?_ | refine Br.f ?_ | refine ⟨rfl, ?_⟩)
          conv => whnf
          refine ⟨cR.glob.pure _ rfl rfl, ?_⟩
          repeat ((conv => whnf); first | refine Br.t ?_ | refine Br.f ?_ | refine ⟨rfl, ?_⟩)
          conv => whnf
          refine ⟨by kernel_rfl, ?_⟩
          repeat ((conv => whnf); first | refine Br.t ?_ | refine Br.f ?_ | refine ⟨rfl, ?_⟩)
          conv => whnf
          refine ⟨by repeat ((conv => whnf); first | exact trivial | refine ⟨rfl, ?_⟩), trivial, ?_⟩
          conv => whnf
          repeat ((conv => whnf); first | refine Br.t ?_ | refine Br.f ?_ | refine ⟨rfl, ?_⟩)
          conv => whnf
          refine fin (target := []) rfl (Nat.zero_le _) (by simp) ?_ rfl
          simp
        · rw [if_neg z3] at cP
          refine CallW.mono (cP.glob.pure _ rfl rfl) ?_
          rintro r st' ⟨rfl, rfl⟩
          repeat ((conv => whnf); first | refine Br.t ?_ | refine Br.f ?_ | refine ⟨rfl, ?_⟩)
          conv => whnf
          refine CallW.mono (cC.glob.pure _ rfl rfl) ?_
          rintro r st' ⟨rfl, rfl⟩
          repeat ((conv => whnf); first | refine Br.t ?_ | refine Br.f ?_ | refine ⟨rfl, ?_⟩)
          conv => whnf
          refine Br.mk (fun _ => ?_) (fun h => by simp at h; exact absurd h z3)
          repeat ((conv => whnf); first | refine Br.t ?_ | refine Br.f ?_ | refine ⟨rfl, ?_⟩)
          conv => whnf
          refine Br.mk (fun _ => ?_) (fun h => by simp at h)
          repeat ((conv => whnf); first | refine Br.t ?_ | refine Br.f ?_ | refine ⟨rfl, ?_⟩)
          conv => whnf
          refine ⟨by kernel_rfl, ?_⟩
          repeat ((conv => whnf); first | refine Br.t ?_ | refine Br.f ?_ | refine ⟨rfl, ?_⟩)
          conv => whnf
          refine fin (target := []) rfl (Nat.zero_le _) (by simp) rfl rfl
end Go.Proofs.YtpbbkfekibmaiaaDoor.Am

/- Plain: the best justifications, together. -/
namespace Go.Proofs.YtpbbkfekibmaiaaDoor.Am
set_option autoImplicit false
set_option linter.unusedVariables false
set_option linter.unusedSimpArgs false
theorem tryL_right {n : Nat} {j : Jst} (h : j ∈ tryL n) : rightB j n = true := by
  simp only [tryL, List.mem_append, List.mem_cons, List.not_mem_nil, or_false, List.mem_map, List.mem_range] at h
  rcases h with (rfl | rfl) | ⟨i, hi, rfl⟩
  · rfl
  · rfl
  · have : (i : Int) < n := by omega
    simp [rightB, lk, this]
theorem right_try {n : Nat} {j : Jst} (h : rightB j n = true) : j ∈ tryL n := by
  obtain ⟨a, b⟩ := j
  simp only [tryL, List.mem_append, List.mem_cons, List.not_mem_nil, or_false, List.mem_map, List.mem_range]
  unfold rightB at h
  split at h
  · rename_i h2
    simp only at h2 h
    simp only [Bool.and_eq_true, decide_eq_true_eq] at h
    exact .inr ⟨b.toNat, by omega, by unfold lk; rw [h2, Int.toNat_of_nonneg h.1]⟩
  · simp only [Bool.and_eq_true, decide_eq_true_eq] at h
    obtain ⟨⟨h1, h2⟩, h3⟩ := h
    have : a = 0 ∨ a = 1 := by omega
    rcases this with rfl | rfl
    · exact .inl (.inl (by rw [h3]))
    · exact .inl (.inr (by rw [h3]))
theorem best_zero {n : Nat} {A : List (Nat × Bool)} {j : Jst} (h : bestJ n A = (j, false)) : j = (0, 0) := by
  unfold bestJ at h
  split at h
  · cases h
  · split at h
    · cases h
    · split at h
      · cases h; rfl
      · cases h
theorem best_right {n : Nat} (hn : n ≤ 32) (A : List (Nat × Bool)) : rightB (bestJ n A).1 n = true := by
  obtain ⟨j, b, h1, h2⟩ := best_same n hn A
  rw [h1]
  cases b with
  | true => exact tryL_right (List.mem_of_find?_eq_some (by rw [h2, if_pos rfl]))
  | false => rw [best_zero h1]; rfl
theorem best_ok {n : Nat} (hn : n ≤ 32) (A : List (Nat × Bool)) : okA (bestJ n A).1 A = (bestJ n A).2 := by
  obtain ⟨j, b, h1, h2⟩ := best_same n hn A
  rw [h1]
  cases b with
  | true => exact List.find?_some (p := fun j => okA j A) (by rw [h2, if_pos rfl])
  | false =>
    rw [best_zero h1]
    rw [if_neg (by simp), List.find?_eq_none] at h2
    have := h2 (0, 0) (by simp [tryL])
    simpa using this
theorem best_no {n : Nat} (hn : n ≤ 32) {A : List (Nat × Bool)} (h : (bestJ n A).2 = false) {j : Jst} (hj : rightB j n = true) : okA j A = false := by
  obtain ⟨j0, b, h1, h2⟩ := best_same n hn A
  rw [h1] at h
  simp only at h
  subst h
  rw [if_neg (by simp), List.find?_eq_none] at h2
  have := h2 j (right_try hj)
  simpa using this
theorem rgt_all {locks : Int} : ∀ (g : Nat) (js : List Jst), (∀ j ∈ js, rightB j locks = true) → rgtI locks g js = none
  | _, [], _ => rfl
  | g, j :: r, h => by rw [rgtI, if_pos (h j List.mem_cons_self)]; exact rgt_all (g + 1) r fun k hk => h k (List.mem_cons_of_mem _ hk)
theorem accI_iff (js : List Jst) (s : Sec) (G : Nat) : ∀ (i : Nat) (L : List Nd), (∀ y ∈ L, (y.1 = 1 ∨ y.1 = 2) → 0 ≤ y.2.1 ∧ y.2.1 < G) → (accI js s i L = none ↔ ∀ g : Nat, g < G → okN (js.getD g (0, 0)) g s i L = true)
  | i, [], _ => by simp [accI, okN]
  | i, y :: r, hy => by
    have ih := accI_iff js s G (i + 1) r fun z hz => hy z (List.mem_cons_of_mem _ hz)
    have hx : accX js s i y = false ↔ ∀ g : Nat, g < G → (if (y.1 = 1 ∨ y.1 = 2) ∧ y.2.1 = (g : Int) then holdsB (js.getD g (0, 0)) (decide (y.1 = 2)) ((shd s).getD i 0) ((slv s).getD i 0) else true) = true := by
      unfold accX
      by_cases kk : y.1 = 1 ∨ y.1 = 2
      · have ek : (decide (y.1 = 1) || decide (y.1 = 2)) = true := by rcases kk with h | h <;> simp [h]
        obtain ⟨a1, a2⟩ := hy y List.mem_cons_self kk
        rw [ek, Bool.true_and]
        constructor
        · intro h g hg
          split
          · rename_i h3
            have : y.2.1.toNat = g := by omega
            rw [this] at h
            simpa using h
          · rfl
        · intro h
          have := h y.2.1.toNat (by omega)
          rw [if_pos ⟨kk, by omega⟩] at this
          rw [this]; rfl
      · have ek : (decide (y.1 = 1) || decide (y.1 = 2)) = false := by simp; omega
        rw [ek, Bool.false_and]
        exact ⟨fun _ g _ => if_neg fun h => kk h.1, fun _ => rfl⟩
    rw [accI]
    by_cases hc : accX js s i y = true
    · rw [if_pos hc]
      constructor
      · intro h; cases h
      · intro h2
        have := hx.2 fun g hg => by have := h2 g hg; rw [okN, Bool.and_eq_true] at this; exact this.1
        rw [hc] at this; cases this
    · rw [if_neg hc, ih]
      have hc' := hx.1 (by simpa using hc)
      constructor
      · intro h g hg
        rw [okN, hc' g hg, h g hg]; rfl
      · intro h2 g hg
        have := h2 g hg
        rw [okN, Bool.and_eq_true] at this
        exact this.2
theorem accJ_iff (js : List Jst) (G : Nat) : ∀ (k : Nat) (fs : List (List Nd)) (l : List Sec), (∀ L ∈ fs, ∀ y ∈ L, (y.1 = 1 ∨ y.1 = 2) → 0 ≤ y.2.1 ∧ y.2.1 < G) → (accJ js k fs l = none ↔ ∀ g : Nat, g < G → okF (js.getD g (0, 0)) g fs l = true)
  | k, [], l, _ => by simp [accJ, okF]
  | k, L :: fs, [], _ => by simp [accJ, okF]
  | k, L :: fs, s :: l, hy => by
    have ih := accJ_iff js G (k + 1) fs l fun M hM => hy M (List.mem_cons_of_mem _ hM)
    have hI := accI_iff js s G 0 L (hy L List.mem_cons_self)
    rw [accJ]
    cases h : accI js s 0 L with
    | some i =>
      simp only
      constructor
      · intro h; cases h
      · intro h2
        have := hI.2 fun g hg => by have := h2 g hg; rw [okF, Bool.and_eq_true] at this; exact this.1
        rw [h] at this; cases this
    | none =>
      simp only
      rw [ih]
      constructor
      · intro h2 g hg
        rw [okF, hI.1 h g hg, h2 g hg]; rfl
      · intro h2 g hg
        have := h2 g hg
        rw [okF, Bool.and_eq_true] at this
        exact this.2
def bj (n : Nat) (p : Pg) (l : List Sec) (g : Nat) : Jst × Bool := bestJ n (accF (g : Int) p.fs l)
def bestL (n : Nat) (p : Pg) (l : List Sec) (k : Nat) : List Jst := (List.range k).map fun g => (bj n p l g).1
def badF (n : Nat) (p : Pg) (l : List Sec) : Nat → Int
  | 0 => -1
  | k + 1 => if (bj n p l k).2 = false ∧ badF n p l k < 0 then (k : Int) else badF n p l k
theorem bad_spec (n : Nat) (p : Pg) (l : List Sec) : ∀ k : Nat, (badF n p l k < 0 ∧ ∀ i, i < k → (bj n p l i).2 = true) ∨ ∃ b : Nat, b < k ∧ badF n p l k = b ∧ (bj n p l b).2 = false
  | 0 => .inl ⟨by simp [badF], fun i hi => absurd hi (by omega)⟩
  | k + 1 => by
    rw [badF]
    rcases bad_spec n p l k with ⟨h1, h2⟩ | ⟨b, h1, h2, h3⟩
    · by_cases h : (bj n p l k).2 = false
      · rw [if_pos ⟨h, h1⟩]
        exact .inr ⟨k, by omega, rfl, h⟩
      · rw [if_neg fun c => h c.1]
        refine .inl ⟨h1, fun i hi => ?_⟩
        by_cases e : i = k
        · subst e; simpa using h
        · exact h2 i (by omega)
    · rw [if_neg fun c => by have := c.2; omega]
      exact .inr ⟨b, by omega, h2, h3⟩
theorem bestL_len (n : Nat) (p : Pg) (l : List Sec) (k : Nat) : (bestL n p l k).length = k := by simp [bestL]
theorem bestL_snoc (n : Nat) (p : Pg) (l : List Sec) (k : Nat) : bestL n p l (k + 1) = bestL n p l k ++ [(bj n p l k).1] := by simp [bestL, List.range_succ]
theorem bestL_get (n : Nat) (p : Pg) (l : List Sec) {k g : Nat} (h : g < k) : (bestL n p l k).getD g (0, 0) = (bj n p l g).1 := by
  simp [bestL, List.getD_eq_getElem?_getD, h]
structure AllOk (n G : Nat) (p : Pg) (l : List Sec) : Prop where
  nl : p.l = n
  n32 : n ≤ 32
  ng : p.g = G
  sh : shapedB p l = true
  may : ∀ L ∈ p.fs, ∀ y ∈ L, mayF p y L.length = true
theorem AllOk.sG {n G : Nat} {p : Pg} {l : List Sec} (h : AllOk n G p l) : shG l p.fs = true := by
  have := h.sh
  unfold shapedB at this
  simp only [Bool.and_eq_true, decide_eq_true_eq] at this
  exact this.2
theorem AllOk.acc {n G : Nat} {p : Pg} {l : List Sec} (h : AllOk n G p l) : ∀ L ∈ p.fs, ∀ y ∈ L, (y.1 = 1 ∨ y.1 = 2) → 0 ≤ y.2.1 ∧ y.2.1 < G := fun L hL y hy k => by
  have := may_acc (h.may L hL y hy) k
  have := h.ng
  omega
theorem all_one {n G : Nat} {p : Pg} {l : List Sec} (h : AllOk n G p l) : ∃ f : Flt, gchk p l (bestL n p l G) = f ∧ (f = (0, 0, 0) ↔ badF n p l G < 0) := by
  refine ⟨_, rfl, ?_⟩
  unfold gchk
  rw [if_neg (by rw [h.sh, h.ng, bestL_len]; simp), rgt_all 0 _ fun j hj => by
    unfold bestL at hj
    rw [List.mem_map] at hj
    obtain ⟨g, hg, rfl⟩ := hj
    rw [h.nl]; exact best_right h.n32 _]
  simp only
  have hi := accJ_iff (bestL n p l G) G 0 p.fs l h.acc
  have hg : ∀ g : Nat, g < G → okF ((bestL n p l G).getD g (0, 0)) g p.fs l = (bj n p l g).2 := fun g hg => by
    rw [bestL_get n p l hg, okF_acc _ _ _ _ h.sG]
    exact best_ok h.n32 _
  cases ha : accJ (bestL n p l G) 0 p.fs l with
  | some r =>
    simp only
    constructor
    · intro c; simp at c
    · intro c
      rcases bad_spec n p l G with ⟨_, h2⟩ | ⟨b, _, h2, _⟩
      · have := hi.2 fun g k => by rw [hg g k]; exact h2 g k
        rw [ha] at this; cases this
      · omega
  | none =>
    simp only
    refine ⟨fun _ => ?_, fun _ => trivial⟩
    rcases bad_spec n p l G with ⟨h1, _⟩ | ⟨b, h1, h2, h3⟩
    · exact h1
    · have := hi.1 ha b h1
      rw [hg b h1, h3] at this
      cases this
theorem all_two {n G : Nat} {p : Pg} {l : List Sec} (h : AllOk n G p l) {b : Nat} (hb : b < G) (hf : (bj n p l b).2 = false) (other : Jst) : (gchk p l ((bestL n p l G).set b other)).2.2 = 8 := by
  unfold gchk
  rw [if_neg (by rw [h.sh, h.ng, List.length_set, bestL_len]; simp)]
  cases hr : rgtI p.l 0 ((bestL n p l G).set b other) with
  | some g => rfl
  | none =>
    have hi := accJ_iff ((bestL n p l G).set b other) G 0 p.fs l h.acc
    simp only
    cases ha : accJ ((bestL n p l G).set b other) 0 p.fs l with
    | some r => rfl
    | none =>
      have h1 := hi.1 ha b hb
      have eg : ((bestL n p l G).set b other).getD b (0, 0) = other := by
        rw [List.getD_eq_getElem?_getD, List.getElem?_set_self (by rw [bestL_len]; exact hb)]; rfl
      rw [eg, okF_acc _ _ _ _ h.sG] at h1
      have hm : other ∈ (bestL n p l G).set b other := by
        rw [List.mem_iff_getElem?]
        exact ⟨b, List.getElem?_set_self (by rw [bestL_len]; exact hb)⟩
      have h2 := rgt_none hr other hm
      rw [h.nl] at h2
      rw [best_no h.n32 hf h2] at h1
      cases h1
end Go.Proofs.YtpbbkfekibmaiaaDoor.Am

/- Contract: the law of the best justifications, together. -/
namespace Go.Proofs.YtpbbkfekibmaiaaDoor.Am
set_option autoImplicit false
set_option linter.unusedVariables false
set_option linter.unusedSimpArgs false
set_option maxRecDepth 10000
set_option pp.maxSteps 3000
set_option pp.proofs false
section
variable {P : Program} {G : Gl}
theorem CallW.ref3 {f : FuncId} {id ver sz : Nat} {ro : Bool} {len : Nat} {is : List (List I)} {a b v : V} (big : List Ob) (h : CallW P G f [a, b, .i (.sl is)] [] (fun r st' => r = v ∧ st' = [])) (hid : big[id]? = some (.row ver sz ro (lift is))) (hlen : len = is.length)
    (ha : V.cl 0 a = true) (hb : V.cl 0 b = true) (hv : V.cl 0 v = true) (hsf : v.sf = true) :
    CallW P G f [a, b, .ref id ver 0 len] big (fun r st' => r = v ∧ st' = big) := by
  refine (CallW.rise (bargs := [a, b, .ref id ver 0 len]) (big := big) [] [id] h rfl List.nodup_nil (by simp) rfl (by simp) (by simp) rfl (fun j s u hs hu => ?_) (.inr (by rintro r st' ⟨rfl, rfl⟩; exact ⟨hsf, by simp⟩))).mono ?_
  · match j with
    | 0 =>
      simp only [List.getElem?_cons_zero, Option.some.injEq] at hs hu
      subst hs hu
      exact .inl ⟨ha, (ren_cl0 _ _ ha).symm⟩
    | 1 =>
      simp only [List.getElem?_cons_zero, List.getElem?_cons_succ, Option.some.injEq] at hs hu
      subst hs hu
      exact .inl ⟨hb, (ren_cl0 _ _ hb).symm⟩
    | 2 =>
      simp only [List.getElem?_cons_zero, List.getElem?_cons_succ, Option.some.injEq] at hs hu
      subst hs hu
      exact .inr ⟨id, ver, 0, len, sz, ro, is, rfl, by simp, hid, by rw [List.drop_zero, List.take_of_length_le (by omega)]⟩
    | j + 3 => simp at hs
  · rintro r st' ⟨r0, st0, ⟨rfl, rfl⟩, rfl, rfl⟩
    exact ⟨ren_cl0 _ _ hv, by simp [putAll]⟩
end
def gaS (l : List Sec) (x : List (Nat × V)) : List V := mkS 105 ([(1, .i (.sl (l.map encSec))), (3, .ptr 0 0 0 0), (5, .ptr 1 0 0 0)] ++ x)
def gaB (p : Pg) (o : Jst) (js : List Jst) : List Ob := [pgB p, jB o, .row 1 2 false (lift (js.map encJ))]
theorem gaB_cl (p : Pg) (o : Jst) (js : List Jst) : ∀ x ∈ gaB p o js, x.cl 3 := by
  intro x hx
  simp only [gaB, List.mem_cons, List.not_mem_nil, or_false] at hx
  rcases hx with rfl | rfl | rfl
  · exact pgB_cl p _
  · intro cs hcs; simp only [List.mem_singleton] at hcs; subst hcs; rfl
  · exact row_cl 1 2 (js.map encJ) _ _ (by simp)
set_option maxHeartbeats 1000000 in
theorem ga_loop (p : Pg) (l : List Sec) (o : Jst) (n g0 : Nat) (h1 : p.fs.length ≤ 40) (h2 : ∀ f ∈ p.fs, f.length ≤ 100) (h3 : l.length ≤ 40) (h4 : ∀ s ∈ l, okSec s) (h5 : ∀ s ∈ l, (shd s).length ≤ 100) (hn : p.l = n) (hn32 : n ≤ 32) (hg : p.g = g0) (hg16 : g0 ≤ 16) :
    W Tryd.prog G1 0 (.loop (lp Tryd.f8 0)) (fun e s' => e = .exit 0 ∧ s' = ⟨gaS l [(10, .ref 2 1 0 (bestL n p l g0).length), (11, .i (.int .i64 (badF n p l g0)))], gaB p o (bestL n p l g0)⟩) ⟨gaS l [(10, .ref 2 1 0 (bestL n p l 0).length), (11, .i (.int .i64 (badF n p l 0))), (12, .i (.int .i64 0))], gaB p o (bestL n p l 0)⟩ := by
  refine W.weak (loop_ok (α := Nat) (fun k => ⟨gaS l [(10, .ref 2 1 0 (bestL n p l k).length), (11, .i (.int .i64 (badF n p l k))), (12, .i (.int .i64 k))], gaB p o (bestL n p l k)⟩)
    (fun k => k ≤ g0) (fun k => g0 - k) 0 (Nat.zero_le _) (Le.refl _ _) (fun k hk => wpx_ok (own := own0) _ _ _ ?_))
  repeat ((conv => whnf); first | refine Br.t ?_ | refine Br.f ?_ | refine ⟨rfl, ?_⟩)
  conv => whnf
  refine Br.mk (fun g1 => ?_) (fun g1 => ?_)
  · have g1 : (k : Int) < p.g := by simpa using g1
    have g1 : k < g0 := by omega
    have c := bestP p l (k : Int) h1 h2 h3 h4 h5 n hn hn32
    obtain ⟨j, b, ej⟩ : ∃ j b, bj n p l k = (j, b) := ⟨_, _, rfl⟩
    have eb : bestJ n (accF (k : Int) p.fs l) = (j, b) := ej
    rw [eb] at c
    obtain ⟨bad, hbad⟩ : ∃ bad, bad = badF n p l k := ⟨_, rfl⟩
    have hL : bestL n p l (k + 1) = bestL n p l k ++ [j] := by rw [bestL_snoc, ej]
    rw [← hbad]
    repeat ((conv => whnf); first | refine Br.t ?_ | refine Br.f ?_ | refine ⟨rfl, ?_⟩)
    conv => whnf
    refine CallW.mono (c.pure _ rfl rfl) ?_
    rintro r st' ⟨rfl, rfl⟩
    cases b with
    | true =>
      have hB : badF n p l (k + 1) = bad := by rw [badF, ej, if_neg (by simp), hbad]
      repeat ((conv => whnf); first | refine Br.t ?_ | refine Br.f ?_ | refine ⟨rfl, ?_⟩)
      conv => whnf
      refine ⟨⟨by intro cs hcs; simp at hcs; subst hcs; rfl, by simp [lift], by rw [bestL_len]; show (k + 1) * 16 ≤ _; omega, len_mx (by rw [bestL_len]; simp [lift]; omega)⟩, ?_⟩
      repeat ((conv => whnf); first | refine Br.t ?_ | refine Br.f ?_ | refine ⟨rfl, ?_⟩)
      conv => whnf
      refine ⟨k + 1, by omega, by omega, Le.back (fun id => if id = 2 then 1 else 0) (by intro id hid; omega) (by simp [gaB]) rfl (gaB_cl p o _) ?_ ?_⟩
      · rw [hB]
        simp [leS, mkS, gaS, V.up, bestL_len, lift]
        exact i64_id (by omega) (by omega)
      · rw [hL]
        simp only [upSt, Ob.up, map_up_lift, List.map_append, lift_app, gaB, List.cons_append, List.nil_append]
        rfl
    | false =>
      repeat ((conv => whnf); first | refine Br.t ?_ | refine Br.f ?_ | refine ⟨rfl, ?_⟩)
      conv => whnf
      refine Br.mk (fun z => ?_) (fun z => ?_)
      · have z : bad < 0 := by simpa using z
        have hB : badF n p l (k + 1) = k := by rw [badF, ej, if_pos ⟨rfl, by rw [← hbad]; exact z⟩]
        repeat ((conv => whnf); first | refine Br.t ?_ | refine Br.f ?_ | refine ⟨rfl, ?_⟩)
        conv => whnf
        refine ⟨⟨by intro cs hcs; simp at hcs; subst hcs; rfl, by simp [lift], by rw [bestL_len]; show (k + 1) * 16 ≤ _; omega, len_mx (by rw [bestL_len]; simp [lift]; omega)⟩, ?_⟩
        repeat ((conv => whnf); first | refine Br.t ?_ | refine Br.f ?_ | refine ⟨rfl, ?_⟩)
        conv => whnf
        refine ⟨k + 1, by omega, by omega, Le.back (fun id => if id = 2 then 1 else 0) (by intro id hid; omega) (by simp [gaB]) rfl (gaB_cl p o _) ?_ ?_⟩
        · rw [hB]
          simp [leS, mkS, gaS, V.up, bestL_len, lift]
          exact i64_id (by omega) (by omega)
        · rw [hL]
          simp only [upSt, Ob.up, map_up_lift, List.map_append, lift_app, gaB, List.cons_append, List.nil_append]
          rfl
      · have z : ¬ bad < 0 := by simpa using z
        have hB : badF n p l (k + 1) = bad := by rw [badF, ej, if_neg (fun h => z (by rw [hbad]; exact h.2)), hbad]
        repeat ((conv => whnf); first | refine Br.t ?_ | refine Br.f ?_ | refine ⟨rfl, ?_⟩)
        conv => whnf
        refine ⟨⟨by intro cs hcs; simp at hcs; subst hcs; rfl, by simp [lift], by rw [bestL_len]; show (k + 1) * 16 ≤ _; omega, len_mx (by rw [bestL_len]; simp [lift]; omega)⟩, ?_⟩
        repeat ((conv => whnf); first | refine Br.t ?_ | refine Br.f ?_ | refine ⟨rfl, ?_⟩)
        conv => whnf
        refine ⟨k + 1, by omega, by omega, Le.back (fun id => if id = 2 then 1 else 0) (by intro id hid; omega) (by simp [gaB]) rfl (gaB_cl p o _) ?_ ?_⟩
        · rw [hB]
          simp [leS, mkS, gaS, V.up, bestL_len, lift]
          exact i64_id (by omega) (by omega)
        · rw [hL]
          simp only [upSt, Ob.up, map_up_lift, List.map_append, lift_app, gaB, List.cons_append, List.nil_append]
          rfl
  · have g1 : ¬ (k : Int) < p.g := by simpa using g1
    have g1 : k = g0 := by omega
    subst g1
    repeat ((conv => whnf); first | refine Br.t ?_ | refine Br.f ?_ | refine ⟨rfl, ?_⟩)
    conv => whnf
    refine ⟨⟨gaS l [(10, .ref 2 1 0 (bestL n p l k).length), (11, .i (.int .i64 (badF n p l k)))], gaB p o (bestL n p l k)⟩, Le.slots (by simp [leS, mkS, gaS]), rfl, rfl⟩
set_option maxHeartbeats 2000000 in
theorem guardall (p : Pg) (hp : okPg p) (l : List Sec) (hl : l.length ≤ 9223372036854775807) (hs : ∀ s ∈ l, okSec s) (o : Jst) :
    CallW Tryd.prog G1 8 [pgV p, .i (.sl (l.map encSec)), jV o] [] (fun r st' => r = .i (.bool true) ∧ st' = []) := by
  refine call_of_bodyF 0 (Nat.le_refl _) Tryd.func8 rfl (fun a w => Tryd.call8 a w) (wpx_ok (own := own0) _ _ _ ?_)
  repeat ((conv => whnf); first | refine Br.t ?_ | refine Br.f ?_ | refine ⟨rfl, ?_⟩)
  conv => whnf
  refine CallW.mono (awake9.pure _ rfl rfl) ?_
  rintro r st' ⟨rfl, rfl⟩
  repeat ((conv => whnf); first | refine Br.t ?_ | refine Br.f ?_ | refine ⟨rfl, ?_⟩)
  conv => whnf
  refine CallW.mono (((small16 p hp).glob).pure _ rfl rfl) ?_
  rintro r st' ⟨rfl, rfl⟩
  repeat ((conv => whnf); first | refine Br.t ?_ | refine Br.f ?_ | refine ⟨rfl, ?_⟩)
  conv => whnf
  refine Br.mk (fun z => ?_) (fun z => ?_)
  · repeat ((conv => whnf); first | refine Br.t ?_ | refine Br.f ?_ | refine ⟨rfl, ?_⟩)
    conv => whnf
    refine CallW.mono (awake9.pure _ rfl rfl) ?_
    rintro r st' ⟨rfl, rfl⟩
    repeat ((conv => whnf); first | refine Br.t ?_ | refine Br.f ?_ | refine ⟨rfl, ?_⟩)
    conv => whnf
    refine fin (target := []) rfl (Nat.zero_le _) (by simp) rfl rfl
  · have hsm : smallB p = true := by simpa using z
    unfold smallB at hsm
    simp only [Bool.and_eq_true, decide_eq_true_eq, List.all_eq_true] at hsm
    obtain ⟨b1, b2⟩ := hsm
    repeat ((conv => whnf); first | refine Br.t ?_ | refine Br.f ?_ | refine ⟨rfl, ?_⟩)
    conv => whnf
    refine CallW.mono (((few11 l hl hs).glob).pure _ rfl rfl) ?_
    rintro r st' ⟨rfl, rfl⟩
    repeat ((conv => whnf); first | refine Br.t ?_ | refine Br.f ?_ | refine ⟨rfl, ?_⟩)
    conv => whnf
    refine Br.mk (fun z2 => ?_) (fun z2 => ?_)
    · repeat ((conv => whnf); first | refine Br.t ?_ | refine Br.f ?_ | refine ⟨rfl, ?_⟩)
      conv => whnf
      refine CallW.mono (awake9.pure _ rfl rfl) ?_
      rintro r st' ⟨rfl, rfl⟩
      repeat ((conv => whnf); first | refine Br.t ?_ | refine Br.f ?_ | refine ⟨rfl, ?_⟩)
      conv => whnf
      refine fin (target := []) rfl (Nat.zero_le _) (by simp) rfl rfl
    · have hfw : fewB l = true := by simpa using z2
      unfold fewB at hfw
      simp only [Bool.and_eq_true, decide_eq_true_eq, List.all_eq_true] at hfw
      obtain ⟨b3, b4⟩ := hfw
      have b5 : ∀ s ∈ l, (shd s).length ≤ 100 := fun s h => (b4 s h).1
      repeat ((conv => whnf); first | refine Br.t ?_ | refine Br.f ?_ | refine ⟨rfl, ?_⟩)
      conv => whnf
      refine CallW.mono (((refcheck p hp).glob).pure _ rfl rfl) ?_
      rintro r st' ⟨rfl, rfl⟩
      obtain ⟨c1, c2, c4, c3⟩ : ∃ a b c, chk p = (a, b, c) := ⟨_, _, _, rfl⟩
      rw [c3]
      repeat ((conv => whnf); first | refine Br.t ?_ | refine Br.f ?_ | refine ⟨rfl, ?_⟩)
      conv => whnf
      refine Br.mk (fun z3 => ?_) (fun z3 => ?_)
      · repeat ((conv => whnf); first | refine Br.t ?_ | refine Br.f ?_ | refine ⟨rfl, ?_⟩)
        conv => whnf
        refine fin (target := []) rfl (Nat.zero_le _) (by simp) rfl rfl
      · have z3 : c4 = 0 := by simpa using z3
        subst z3
        have ok := chk_zero (p := p) (by rw [c3])
        repeat ((conv => whnf); first | refine Br.t ?_ | refine Br.f ?_ | refine ⟨rfl, ?_⟩)
        conv => whnf
        refine CallW.mono (((shapedR p l b3).glob).pure _ rfl rfl) ?_
        rintro r st' ⟨rfl, rfl⟩
        obtain ⟨q, hq⟩ : ∃ q, q = shapedB p l := ⟨_, rfl⟩
        rw [← hq]
        cases q with
        | false =>
          repeat ((conv => whnf); first | refine Br.t ?_ | refine Br.f ?_ | refine ⟨rfl, ?_⟩)
          conv => whnf
          refine fin (target := []) rfl (Nat.zero_le _) (by simp) rfl rfl
        | true =>
          obtain ⟨n, hn⟩ : ∃ n : Nat, p.l = n := ⟨p.l.toNat, by have := ok.l; omega⟩
          obtain ⟨g0, hg⟩ : ∃ n : Nat, p.g = n := ⟨p.g.toNat, by have := ok.g; omega⟩
          have hn32 : n ≤ 32 := by have := ok.l; omega
          have hg16 : g0 ≤ 16 := by have := ok.g; omega
          have hA : AllOk n g0 p l := ⟨hn, hn32, hg, hq.symm, fun L hL => (ok.f L hL).2.2⟩
          obtain ⟨ft, e1, e2⟩ := all_one hA
          have cP := guardchk p hp l (bestL n p l g0) b3 (by rw [bestL_len]; omega) hs
          unfold gpc gpV at cP
          rw [c3, if_pos rfl, e1] at cP
          have cP := cP.glob.ref3 (G := G1) (id := 2) (ver := 1) (sz := 2) (ro := false) (len := (bestL n p l g0).length) (gaB p o (bestL n p l g0)) rfl (by simp) rfl rfl rfl rfl
          repeat ((conv => whnf); first | refine Br.t ?_ | refine Br.f ?_ | refine ⟨rfl, ?_⟩)
          conv => whnf
          refine W.le ((Le.nil (n := 0) 10 2 rfl).trans (Le.slots (sl' := gaS l [(10, .ref 2 1 0 (bestL n p l 0).length), (11, .i (.int .i64 (badF n p l 0))), (12, .i (.int .i64 0))]) (by simp [leS, mkS, gaS, bestL, badF]))) (W.mono (ga_loop p l o n g0 b1 b2 b3 hs b5 hn hn32 hg hg16) ?_)
          rintro e s' ⟨rfl, rfl⟩
          obtain ⟨bad, hbad⟩ : ∃ bad, bad = badF n p l g0 := ⟨_, rfl⟩
          rw [← hbad] at e2 ⊢
          obtain ⟨f1, f2, f3⟩ := ft
          repeat ((conv => whnf); first | refine Br.t ?_ | refine Br.f ?_ | refine ⟨rfl, ?_⟩)
          conv => whnf
          refine CallW.mono cP ?_
          rintro r st' ⟨rfl, rfl⟩
          rcases bad_spec n p l g0 with ⟨y1, y2⟩ | ⟨b, y1, y2, y3⟩
          · rw [← hbad] at y1
            have ef := e2.2 y1
            simp only [Prod.mk.injEq] at ef
            obtain ⟨rfl, rfl, rfl⟩ := ef
            repeat ((conv => whnf); first | refine Br.t ?_ | refine Br.f ?_ | refine ⟨rfl, ?_⟩)
            conv => whnf
            refine ⟨by kernel_rfl, ?_⟩
            repeat ((conv => whnf); first | refine Br.t ?_ | refine Br.f ?_ | refine ⟨rfl, ?_⟩)
            conv => whnf
            refine Br.mk (fun h => by simp at h; omega) (fun _ => ?_)
            repeat ((conv => whnf); first | refine Br.t ?_ | refine Br.f ?_ | refine ⟨rfl, ?_⟩)
            conv => whnf
            refine Br.mk (fun h => by simp at h; omega) (fun _ => ?_)
            repeat ((conv => whnf); first | refine Br.t ?_ | refine Br.f ?_ | refine ⟨rfl, ?_⟩)
            conv => whnf
            refine fin (target := []) rfl (Nat.zero_le _) (by simp) rfl rfl
          · rw [← hbad] at y2
            subst y2
            have e3 : ¬ (f1 = 0 ∧ f2 = 0 ∧ f3 = 0) := fun c => by
              have := e2.1 (by rw [c.1, c.2.1, c.2.2])
              omega
            have e8 := all_two hA y1 y3 o
            have cQ := guardchk p hp l ((bestL n p l g0).set b o) b3 (by rw [List.length_set, bestL_len]; omega) hs
            unfold gpc gpV at cQ
            rw [c3, if_pos rfl] at cQ
            obtain ⟨⟨h1, h2, h3⟩, hf⟩ : ∃ fq, fq = gchk p l ((bestL n p l g0).set b o) := ⟨_, rfl⟩
            rw [← hf] at cQ e8
            simp only at e8
            subst e8
            repeat ((conv => whnf); first | refine Br.t ?_ | refine Br.f ?_ | refine ⟨rfl, ?_⟩)
            conv => whnf
            refine ⟨by kernel_rfl, ?_⟩
            repeat ((conv => whnf); first | refine Br.t ?_ | refine Br.f ?_ | refine ⟨rfl, ?_⟩)
            conv => whnf
            refine Br.mk (fun h => absurd (by have dn : decide ((b : Int) < 0) = false := by simp
                                              rw [dn] at h
                                              simpa using h) e3) (fun _ => ?_)
            repeat ((conv => whnf); first | refine Br.t ?_ | refine Br.f ?_ | refine ⟨rfl, ?_⟩)
            conv => whnf
            refine ⟨⟨by omega, by rw [bestL_len]; omega⟩, ?_⟩
            repeat ((conv => whnf); first | refine Br.t ?_ | refine Br.f ?_ | refine ⟨rfl, ?_⟩)
            conv => whnf
            have hbl : b < (bestL n p l g0).length := by rw [bestL_len]; exact y1
            have eg : (lift ((bestL n p l g0).map encJ)).getD (0 + ((b : Nat) : Int).toNat) [] = (encJ ((bestL n p l g0)[b])).map V.i := by
              rw [Nat.zero_add, Int.toNat_natCast]; exact lift_getD encJ _ hbl
            rw [eg]
            refine ⟨rfl, ?_⟩
            repeat ((conv => whnf); first | refine Br.t ?_ | refine Br.f ?_ | refine ⟨rfl, ?_⟩)
            conv => whnf
            have es : (lift ((bestL n p l g0).map encJ)).set (0 + ((b : Nat) : Int).toNat) ((encJ o).map V.i) = lift (((bestL n p l g0).set b o).map encJ) := by
              rw [Nat.zero_add, Int.toNat_natCast]; exact lift_set encJ _ b o
            refine CallW.mono (cQ.glob.ref3 (G := G1) (id := 2) (ver := 1) (sz := 2) (ro := false) (len := (bestL n p l g0).length) _ (by exact congrArg (fun e => some (Ob.row 1 2 false e)) es) (by simp) rfl rfl rfl rfl) ?_
            rintro r st' ⟨rfl, rfl⟩
            repeat ((conv => whnf); first | refine Br.t ?_ | refine Br.f ?_ | refine ⟨rfl, ?_⟩)
            conv => whnf
            refine fin (target := []) rfl (Nat.zero_le _) (by simp) rfl rfl
end Go.Proofs.YtpbbkfekibmaiaaDoor.Am
