/- Contracts: the document's check of justifications, in full. -/
import Derived.Test.YtpbbkfekibmaiaaDoorGqA
namespace Go.Proofs.YtpbbkfekibmaiaaDoor.Am
set_option autoImplicit false
set_option linter.unusedVariables false
set_option linter.unusedSimpArgs false
set_option maxRecDepth 10000
set_option pp.maxSteps 3000
set_option pp.proofs false
structure JsOk (p : Pg) (l : List Sec) (js : List Jst) : Prop where
  n : (js.length : Int) = p.g
  n16 : js.length ≤ 16
  lk : ∀ j ∈ js, j.1 = 2 → 0 ≤ j.2 ∧ j.2 < 32
theorem js_get {js : List Jst} {a : Nat} (h : a < js.length) : ∃ j, js.getD a (0, 0) = j ∧ j ∈ js ∧ (js.map encJ).getD (a : Int).toNat [] = encJ j := by
  refine ⟨js[a], ?_, List.getElem_mem _, ?_⟩
  · simp [List.getD_eq_getElem?_getD, h]
  · exact getD_enc h
theorem u32_get {l : List Nat} {i : Nat} (h : i < l.length) : (l.map el32).getD (i : Int).toNat [] = el32 (l.getD i 0) := by
  rw [Int.toNat_natCast]
  simp [List.getD_eq_getElem?_getD, h, el32]
theorem u32_lt {l : List Nat} (h : ∀ m ∈ l, m < 4294967296) (i : Nat) : l.getD i 0 < 4294967296 := by
  rw [List.getD_eq_getElem?_getD]
  cases hi : l[i]? with
  | none => simp
  | some x => exact h x (List.mem_of_getElem? hi)
def ndC (y : Nd) : Ob := .row 0 4 false [(encNd y).map .i]
set_option maxHeartbeats 2000000 in
theorem gc_node (p : Pg) (l : List Sec) (js : List Jst) (hj : JsOk p l js) (f : Nat) (L : List Nd) (s : Sec) (hf : f < p.fs.length) (hfl : p.fs.length ≤ 40) (hfs : f < l.length) (hll : l.length ≤ 40)
    (eL : (p.fs.map encF).getD (f : Int).toNat [] = encF L) (es : (l.map encSec).getD (f : Int).toNat [] = encSec s) (hLl : L.length ≤ 100) (hs : okSec s) (hs1 : (shd s).length = L.length) (hs2 : (slv s).length = L.length) (hmay : ∀ y ∈ L, mayF p y L.length = true) (Q : Exit → S → Prop)
    (hbad : ∀ i, accI js s 0 L = some i → Q .ret ⟨gcS l js [], [pgB p, fltB ((f : Int), (i : Int), 8)]⟩) (hok : accI js s 0 L = none → Q (.exit 4) ⟨gcS l js [(8, .i (.int .i64 f))], [pgB p, fltB (0, 0, 0)]⟩) :
    W Tryd.prog G0 0 (.loop (lp Tryd.f24 2)) Q ⟨gcS l js [(8, .i (.int .i64 f)), (9, .i (.int .i64 0))], [pgB p, fltB (0, 0, 0)]⟩ := by
  refine W.weak (loop_ok (α := Nat) (fun i => ⟨gcS l js [(8, .i (.int .i64 f)), (9, .i (.int .i64 i))], [pgB p, fltB (0, 0, 0)]⟩)
    (fun i => i ≤ L.length ∧ accI js s i (L.drop i) = accI js s 0 L) (fun i => L.length - i) 0 ⟨Nat.zero_le _, rfl⟩ (Le.refl _ _) (fun i hi => wpx_ok (own := own0) _ _ _ ?_))
  obtain ⟨h3, h4⟩ := hi
  repeat ((conv => whnf); first | refine Br.t ?_ | refine Br.f ?_ | refine ⟨rfl, ?_⟩)
  conv => whnf
  rw [eL]
  refine ⟨⟨by omega, by simp; omega, rfl⟩, ?_⟩
  repeat ((conv => whnf); first | refine Br.t ?_ | refine Br.f ?_ | refine ⟨rfl, ?_⟩)
  conv => whnf
  refine Br.mk (fun g1 => ?_) (fun g1 => ?_)
  · have g1 : i < L.length := by simpa using g1
    obtain ⟨y, hy⟩ : ∃ y, y = L[i] := ⟨_, rfl⟩
    have hym := hmay y (hy ▸ List.getElem_mem g1)
    have ey : (L.map encNd).getD (i : Int).toNat [] = encNd y := by rw [hy]; exact getD_enc g1
    have eyd : L.drop i = y :: L.drop (i + 1) := by rw [hy]; exact List.drop_eq_getElem_cons g1
    rw [eyd, accI] at h4
    have eh := u32_get (l := shd s) (i := i) (by omega)
    have el := u32_get (l := slv s) (i := i) (by omega)
    repeat ((conv => whnf); first | refine Br.t ?_ | refine Br.f ?_ | refine ⟨rfl, ?_⟩)
    conv => whnf
    rw [eL]
    refine ⟨⟨by omega, by simp; omega, rfl⟩, ?_⟩
    repeat ((conv => whnf); first | refine Br.t ?_ | refine Br.f ?_ | refine ⟨rfl, ?_⟩)
    conv => whnf
    rw [ey]
    refine ⟨⟨by omega, by simp; omega, rfl⟩, ?_⟩
    repeat ((conv => whnf); first | refine Br.t ?_ | refine Br.f ?_ | refine ⟨rfl, ?_⟩)
    conv => whnf
    by_cases kk : y.1 = 1 ∨ y.1 = 2
    · obtain ⟨a1, a2⟩ := may_acc hym kk
      have ea : ((y.2.1.toNat : Nat) : Int) = y.2.1 := by omega
      have hj16 := hj.n16
      obtain ⟨j, j1, j2, ej⟩ := js_get (js := js) (a := y.2.1.toNat) (by have := hj.n; omega)
      rw [ea] at ej
      obtain ⟨q, hq⟩ : ∃ q, q = holdsB j (y.1 == 2) ((shd s).getD i 0) ((slv s).getD i 0) := ⟨_, rfl⟩
      have cm := holdsR j (y.1 == 2) ((shd s).getD i 0) ((slv s).getD i 0) (u32_lt hs.1.2 i) (hj.lk j j2)
      rw [← hq] at cm
      have eX : accX js s i y = !q := by
        unfold accX
        rw [j1, hq]
        have : (decide (y.1 = 1) || decide (y.1 = 2)) = true := by rcases kk with h | h <;> simp [h]
        rw [this]; rfl
      rw [eX] at h4
      refine draw_ok (own := own0) [] [] [(.i (.bool q), [pgB p, fltB (0, 0, 0), ndC y])] rfl (by kernel_rfl) (Nat.zero_le _) ?_
      repeat ((conv => whnf); first | refine Br.t ?_ | refine Br.f ?_ | refine ⟨rfl, ?_⟩)
      conv => whnf
      refine Br.mk (fun k1 => ?_) (fun k1 => ?_)
      · repeat ((conv => whnf); first | refine Br.t ?_ | refine Br.f ?_ | refine ⟨rfl, ?_⟩)
        conv => whnf
        rw [ej]
        refine ⟨⟨by omega, by have := hj.n; have := hj.n16; simp; omega, rfl⟩, ?_⟩
        repeat ((conv => whnf); first | refine Br.t ?_ | refine Br.f ?_ | refine ⟨rfl, ?_⟩)
        conv => whnf
        rw [es]
        refine ⟨⟨by omega, by simp; omega, rfl⟩, ?_⟩
        repeat ((conv => whnf); first | refine Br.t ?_ | refine Br.f ?_ | refine ⟨rfl, ?_⟩)
        conv => whnf
        rw [eh]
        refine ⟨⟨by omega, by simp; omega, rfl⟩, ?_⟩
        repeat ((conv => whnf); first | refine Br.t ?_ | refine Br.f ?_ | refine ⟨rfl, ?_⟩)
        conv => whnf
        rw [es]
        refine ⟨⟨by omega, by simp; omega, rfl⟩, ?_⟩
        repeat ((conv => whnf); first | refine Br.t ?_ | refine Br.f ?_ | refine ⟨rfl, ?_⟩)
        conv => whnf
        rw [el]
        refine ⟨⟨by omega, by simp; omega, rfl⟩, ?_⟩
        repeat ((conv => whnf); first | refine Br.t ?_ | refine Br.f ?_ | refine ⟨rfl, ?_⟩)
        conv => whnf
        refine ⟨cm.pure _ rfl rfl, ?_⟩
        repeat ((conv => whnf); first | refine Br.t ?_ | refine Br.f ?_ | refine ⟨rfl, ?_⟩)
        conv => whnf
        refine ⟨by repeat ((conv => whnf); first | exact trivial | refine ⟨rfl, ?_⟩), trivial, ?_⟩
        conv => whnf
        cases q with
        | true =>
          rw [Bool.not_true, if_neg Bool.false_ne_true] at h4
          repeat ((conv => whnf); first | refine Br.t ?_ | refine Br.f ?_ | refine ⟨rfl, ?_⟩)
          conv => whnf
          refine ⟨i + 1, ⟨by omega, h4⟩, by omega, Le.back (fun _ => 0) (by intro id hid; rfl) (by simp) rfl (gcB_cl p _ _) ?_ rfl⟩
          simp [leS, mkS, gcS, V.up]
          exact i64_id (by omega) (by omega)
        | false =>
          rw [Bool.not_false, if_pos rfl] at h4
          repeat ((conv => whnf); first | refine Br.t ?_ | refine Br.f ?_ | refine ⟨rfl, ?_⟩)
          conv => whnf
          refine ⟨_, Le.back (s := ⟨gcS l js [], [pgB p, fltB ((f : Int), (i : Int), 8)]⟩) (fun _ => 0) (by intro id hid; rfl) (by simp) rfl (gcB_cl p _ _) ?_ rfl, hbad i h4.symm⟩
          simp [leS, mkS, gcS, V.up]
      · have k1 : ¬ y.1 = 1 := by simpa using k1
        repeat ((conv => whnf); first | refine Br.t ?_ | refine Br.f ?_ | refine ⟨rfl, ?_⟩)
        conv => whnf
        refine Br.mk (fun k2 => ?_) (fun k2 => by simp at k2; omega)
        repeat ((conv => whnf); first | refine Br.t ?_ | refine Br.f ?_ | refine ⟨rfl, ?_⟩)
        conv => whnf
        rw [ej]
        refine ⟨⟨by omega, by have := hj.n; have := hj.n16; simp; omega, rfl⟩, ?_⟩
        repeat ((conv => whnf); first | refine Br.t ?_ | refine Br.f ?_ | refine ⟨rfl, ?_⟩)
        conv => whnf
        rw [es]
        refine ⟨⟨by omega, by simp; omega, rfl⟩, ?_⟩
        repeat ((conv => whnf); first | refine Br.t ?_ | refine Br.f ?_ | refine ⟨rfl, ?_⟩)
        conv => whnf
        rw [eh]
        refine ⟨⟨by omega, by simp; omega, rfl⟩, ?_⟩
        repeat ((conv => whnf); first | refine Br.t ?_ | refine Br.f ?_ | refine ⟨rfl, ?_⟩)
        conv => whnf
        rw [es]
        refine ⟨⟨by omega, by simp; omega, rfl⟩, ?_⟩
        repeat ((conv => whnf); first | refine Br.t ?_ | refine Br.f ?_ | refine ⟨rfl, ?_⟩)
        conv => whnf
        rw [el]
        refine ⟨⟨by omega, by simp; omega, rfl⟩, ?_⟩
        repeat ((conv => whnf); first | refine Br.t ?_ | refine Br.f ?_ | refine ⟨rfl, ?_⟩)
        conv => whnf
        refine ⟨cm.pure _ rfl rfl, ?_⟩
        repeat ((conv => whnf); first | refine Br.t ?_ | refine Br.f ?_ | refine ⟨rfl, ?_⟩)
        conv => whnf
        refine ⟨by repeat ((conv => whnf); first | exact trivial | refine ⟨rfl, ?_⟩), trivial, ?_⟩
        conv => whnf
        cases q with
        | true =>
          rw [Bool.not_true, if_neg Bool.false_ne_true] at h4
          repeat ((conv => whnf); first | refine Br.t ?_ | refine Br.f ?_ | refine ⟨rfl, ?_⟩)
          conv => whnf
          refine ⟨i + 1, ⟨by omega, h4⟩, by omega, Le.back (fun _ => 0) (by intro id hid; rfl) (by simp) rfl (gcB_cl p _ _) ?_ rfl⟩
          simp [leS, mkS, gcS, V.up]
          exact i64_id (by omega) (by omega)
        | false =>
          rw [Bool.not_false, if_pos rfl] at h4
          repeat ((conv => whnf); first | refine Br.t ?_ | refine Br.f ?_ | refine ⟨rfl, ?_⟩)
          conv => whnf
          refine ⟨_, Le.back (s := ⟨gcS l js [], [pgB p, fltB ((f : Int), (i : Int), 8)]⟩) (fun _ => 0) (by intro id hid; rfl) (by simp) rfl (gcB_cl p _ _) ?_ rfl, hbad i h4.symm⟩
          simp [leS, mkS, gcS, V.up]
    · have eX : accX js s i y = false := by
        unfold accX
        have : (decide (y.1 = 1) || decide (y.1 = 2)) = false := by simp; omega
        rw [this]; rfl
      rw [eX, if_neg (by simp)] at h4
      refine draw_ok (own := own0) [] [] [] rfl (by kernel_rfl) (Nat.zero_le _) ?_
      repeat ((conv => whnf); first | refine Br.t ?_ | refine Br.f ?_ | refine ⟨rfl, ?_⟩)
      conv => whnf
      refine Br.mk (fun k1 => by simp at k1; omega) (fun k1 => ?_)
      repeat ((conv => whnf); first | refine Br.t ?_ | refine Br.f ?_ | refine ⟨rfl, ?_⟩)
      conv => whnf
      refine Br.mk (fun k1 => by simp at k1; omega) (fun k1 => ?_)
      repeat ((conv => whnf); first | refine Br.t ?_ | refine Br.f ?_ | refine ⟨rfl, ?_⟩)
      conv => whnf
      refine ⟨by repeat ((conv => whnf); first | exact trivial | refine ⟨rfl, ?_⟩), trivial, ?_⟩
      conv => whnf
      repeat ((conv => whnf); first | refine Br.t ?_ | refine Br.f ?_ | refine ⟨rfl, ?_⟩)
      conv => whnf
      refine ⟨i + 1, ⟨by omega, h4⟩, by omega, Le.back (fun _ => 0) (by intro id hid; rfl) (by simp) rfl (gcB_cl p _ _) ?_ rfl⟩
      simp [leS, mkS, gcS, V.up]
      exact i64_id (by omega) (by omega)
  · have g1 : i = L.length := by simp at g1; omega
    subst g1
    rw [List.drop_length, accI] at h4
    repeat ((conv => whnf); first | refine Br.t ?_ | refine Br.f ?_ | refine ⟨rfl, ?_⟩)
    conv => whnf
    exact ⟨_, Le.slots (by simp [leS, mkS, gcS]), hok h4.symm⟩
end Go.Proofs.YtpbbkfekibmaiaaDoor.Am
