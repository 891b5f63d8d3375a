/- Contract: the program's check of justifications, in full. -/
import Derived.Test.YtpbbkfekibmaiaaDoorGqD
namespace Go.Proofs.YtpbbkfekibmaiaaDoor.Am
set_option autoImplicit false
set_option linter.unusedVariables false
set_option linter.unusedSimpArgs false
set_option maxRecDepth 10000
set_option pp.maxSteps 3000
set_option pp.proofs false
def gpF (p : Pg) (f : Nat) : List (Nat × V) := [(58, .i (.sl (p.fs.map encF))), (59, .i (.int .i64 p.fs.length)), (60, .i (.int .i64 f))]
def gpN (f : Nat) (L : List Nd) (i : Nat) : List (Nat × V) := [(13, .i (.int .i64 f)), (65, .i (.sl (L.map encNd))), (66, .i (.int .i64 L.length)), (67, .i (.int .i64 i))]
set_option maxHeartbeats 2000000 in
theorem gp_node (p : Pg) (l : List Sec) (js : List Jst) (hj : JsOk p l js) (f : Nat) (L : List Nd) (s : Sec) (hf : f < p.fs.length) (hfl : p.fs.length ≤ 40) (hfs : f < l.length) (hll : l.length ≤ 40)
    (es : (l.map encSec).getD (f : Int).toNat [] = encSec s) (hLl : L.length ≤ 100) (hs : okSec s) (hs1 : (shd s).length = L.length) (hs2 : (slv s).length = L.length) (hmay : ∀ y ∈ L, mayF p y L.length = true) (Q : Exit → S → Prop)
    (hbad : ∀ i, accI js s 0 L = some i → Q .ret ⟨gpS l js [], [pgB p, fltB ((f : Int), (i : Int), 8)]⟩) (hok : accI js s 0 L = none → Q (.exit 4) ⟨gpS l js (gpF p f), [pgB p, fltB (0, 0, 0)]⟩) :
    W Tryd.prog G0 0 (.loop (lp Tryd.f23 2)) Q ⟨gpS l js (gpF p f ++ gpN f L 0), [pgB p, fltB (0, 0, 0)]⟩ := by
  refine W.weak (loop_ok (α := Nat) (fun i => ⟨gpS l js (gpF p f ++ gpN f L i), [pgB p, fltB (0, 0, 0)]⟩)
    (fun i => i ≤ L.length ∧ accI js s i (L.drop i) = accI js s 0 L) (fun i => L.length - i) 0 ⟨Nat.zero_le _, rfl⟩ (Le.refl _ _) (fun i hi => wpx_ok (own := own0) _ _ _ ?_))
  obtain ⟨h3, h4⟩ := hi
  repeat ((conv => whnf); first | refine Br.t ?_ | refine Br.f ?_ | refine ⟨rfl, ?_⟩)
  conv => whnf
  refine Br.mk (fun g1 => ?_) (fun g1 => ?_)
  · have g1 : i < L.length := by simpa using g1
    obtain ⟨y, hy⟩ : ∃ y, y = L[i] := ⟨_, rfl⟩
    have hym := hmay y (hy ▸ List.getElem_mem g1)
    have ey : (L.map encNd).getD (i : Int).toNat [] = encNd y := by rw [hy]; exact getD_enc g1
    have eyd : L.drop i = y :: L.drop (i + 1) := by rw [hy]; exact List.drop_eq_getElem_cons g1
    rw [eyd, accI] at h4
    have eh := u32_get (l := shd s) (i := i) (by omega)
    have el := u32_get (l := slv s) (i := i) (by omega)
    have ca := access29 y
    have cs := solo30 s hs i
    repeat ((conv => whnf); first | refine Br.t ?_ | refine Br.f ?_ | refine ⟨rfl, ?_⟩)
    conv => whnf
    rw [ey]
    refine ⟨⟨by omega, by simp; omega, rfl⟩, ?_⟩
    repeat ((conv => whnf); first | refine Br.t ?_ | refine Br.f ?_ | refine ⟨rfl, ?_⟩)
    conv => whnf
    by_cases kk : y.1 = 1 ∨ y.1 = 2
    · have ek : (decide (y.1 = 1) || decide (y.1 = 2)) = true := by rcases kk with h | h <;> simp [h]
      rw [ek] at ca
      obtain ⟨a1, a2⟩ := may_acc hym kk
      have ea : ((y.2.1.toNat : Nat) : Int) = y.2.1 := by omega
      have hj16 := hj.n16
      have hjn := hj.n
      obtain ⟨j, j1, j2, ej⟩ := js_get (js := js) (a := y.2.1.toNat) (by omega)
      rw [ea] at ej
      obtain ⟨q, hq⟩ : ∃ q, q = holdsB j (decide (y.1 = 2)) ((shd s).getD i 0) ((slv s).getD i 0) := ⟨_, rfl⟩
      have cm := holdsP j (decide (y.1 = 2)) ((shd s).getD i 0) ((slv s).getD i 0) (u32_lt hs.1.2 i) (hj.lk j j2)
      rw [← hq] at cm
      have eX : accX js s i y = !q := by
        unfold accX
        rw [j1, hq, ek]; rfl
      rw [eX] at h4
      refine CallW.mono (ca.pure _ rfl rfl) ?_
      rintro r st' ⟨rfl, rfl⟩
      obtain ⟨t, ht⟩ : ∃ t, t = soloB s i := ⟨_, rfl⟩
      rw [← ht] at cs
      cases t with
      | true =>
        have hq1 : q = true := by
          unfold soloB at ht
          have ht := ht.symm
          simp only [Bool.and_eq_true, decide_eq_true_eq] at ht
          rw [hq]; unfold holdsB; rw [decide_eq_true ht.2]; rfl
        subst hq1
        rw [Bool.not_true, if_neg Bool.false_ne_true] at h4
        repeat ((conv => whnf); first | refine Br.t ?_ | refine Br.f ?_ | refine ⟨rfl, ?_⟩)
        conv => whnf
        refine draw_ok (own := own0) [] [] [(.i (.bool true), [pgB p, fltB (0, 0, 0), ndC y])] rfl (by kernel_rfl) (Nat.zero_le _) ?_
        repeat ((conv => whnf); first | refine Br.t ?_ | refine Br.f ?_ | refine ⟨rfl, ?_⟩)
        conv => whnf
        rw [es]
        refine ⟨⟨by omega, by simp; omega, rfl⟩, ?_⟩
        repeat ((conv => whnf); first | refine Br.t ?_ | refine Br.f ?_ | refine ⟨rfl, ?_⟩)
        conv => whnf
        refine ⟨cs.pure _ rfl rfl, ?_⟩
        repeat ((conv => whnf); first | refine Br.t ?_ | refine Br.f ?_ | refine ⟨rfl, ?_⟩)
        conv => whnf
        refine ⟨by repeat ((conv => whnf); first | exact trivial | refine ⟨rfl, ?_⟩), trivial, ?_⟩
        conv => whnf
        repeat ((conv => whnf); first | refine Br.t ?_ | refine Br.f ?_ | refine ⟨rfl, ?_⟩)
        conv => whnf
        refine ⟨i + 1, ⟨by omega, h4⟩, by omega, Le.back (fun _ => 0) (by intro id hid; rfl) (by simp) rfl (gcB_cl p _ _) ?_ rfl⟩
        simp [leS, mkS, gpS, gpF, gpN, V.up]
        exact i64_id (by omega) (by omega)
      | false =>
        repeat ((conv => whnf); first | refine Br.t ?_ | refine Br.f ?_ | refine ⟨rfl, ?_⟩)
        conv => whnf
        refine draw_ok (own := own0) [] [] [(.i (.bool false), [pgB p, fltB (0, 0, 0), ndC y]), (.i (.bool q), [pgB p, fltB (0, 0, 0), ndC y])] rfl (by kernel_rfl) (Nat.zero_le _) ?_
        repeat ((conv => whnf); first | refine Br.t ?_ | refine Br.f ?_ | refine ⟨rfl, ?_⟩)
        conv => whnf
        rw [es]
        refine ⟨⟨by omega, by simp; omega, rfl⟩, ?_⟩
        repeat ((conv => whnf); first | refine Br.t ?_ | refine Br.f ?_ | refine ⟨rfl, ?_⟩)
        conv => whnf
        refine ⟨cs.pure _ rfl rfl, ?_⟩
        repeat ((conv => whnf); first | refine Br.t ?_ | refine Br.f ?_ | refine ⟨rfl, ?_⟩)
        conv => whnf
        rw [ej]
        refine ⟨⟨by omega, by simp; omega, rfl⟩, ?_⟩
        repeat ((conv => whnf); first | refine Br.t ?_ | refine Br.f ?_ | refine ⟨rfl, ?_⟩)
        conv => whnf
        rw [es]
        refine ⟨⟨by omega, by simp; omega, rfl⟩, ?_⟩
        repeat ((conv => whnf); first | refine Br.t ?_ | refine Br.f ?_ | refine ⟨rfl, ?_⟩)
        conv => whnf
        rw [eh]
        refine ⟨⟨by omega, by simp; omega, rfl⟩, ?_⟩
        repeat ((conv => whnf); first | refine Br.t ?_ | refine Br.f ?_ | refine ⟨rfl, ?_⟩)
        conv => whnf
        rw [es]
        refine ⟨⟨by omega, by simp; omega, rfl⟩, ?_⟩
        repeat ((conv => whnf); first | refine Br.t ?_ | refine Br.f ?_ | refine ⟨rfl, ?_⟩)
        conv => whnf
        rw [el]
        refine ⟨⟨by omega, by simp; omega, rfl⟩, ?_⟩
        repeat ((conv => whnf); first | refine Br.t ?_ | refine Br.f ?_ | refine ⟨rfl, ?_⟩)
        conv => whnf
        refine ⟨cm.pure _ rfl rfl, ?_⟩
        repeat ((conv => whnf); first | refine Br.t ?_ | refine Br.f ?_ | refine ⟨rfl, ?_⟩)
        conv => whnf
        refine ⟨by repeat ((conv => whnf); first | exact trivial | refine ⟨rfl, ?_⟩), trivial, ?_⟩
        conv => whnf
        cases q with
        | true =>
          rw [Bool.not_true, if_neg Bool.false_ne_true] at h4
          repeat ((conv => whnf); first | refine Br.t ?_ | refine Br.f ?_ | refine ⟨rfl, ?_⟩)
          conv => whnf
          refine ⟨i + 1, ⟨by omega, h4⟩, by omega, Le.back (fun _ => 0) (by intro id hid; rfl) (by simp) rfl (gcB_cl p _ _) ?_ rfl⟩
          simp [leS, mkS, gpS, gpF, gpN, V.up]
          exact i64_id (by omega) (by omega)
        | false =>
          rw [Bool.not_false, if_pos rfl] at h4
          repeat ((conv => whnf); first | refine Br.t ?_ | refine Br.f ?_ | refine ⟨rfl, ?_⟩)
          conv => whnf
          refine ⟨_, Le.back (s := ⟨gpS l js [], [pgB p, fltB ((f : Int), (i : Int), 8)]⟩) (fun _ => 0) (by intro id hid; rfl) (by simp) rfl (gcB_cl p _ _) ?_ rfl, hbad i h4.symm⟩
          simp [leS, mkS, gpS, gpF, gpN, V.up]
    · have ek : (decide (y.1 = 1) || decide (y.1 = 2)) = false := by simp; omega
      rw [ek] at ca
      have eX : accX js s i y = false := by
        unfold accX
        rw [ek]; rfl
      rw [eX, if_neg (by simp)] at h4
      refine CallW.mono (ca.pure _ rfl rfl) ?_
      rintro r st' ⟨rfl, rfl⟩
      repeat ((conv => whnf); first | refine Br.t ?_ | refine Br.f ?_ | refine ⟨rfl, ?_⟩)
      conv => whnf
      refine draw_ok (own := own0) [] [] [] rfl (by kernel_rfl) (Nat.zero_le _) ?_
      repeat ((conv => whnf); first | refine Br.t ?_ | refine Br.f ?_ | refine ⟨rfl, ?_⟩)
      conv => whnf
      refine ⟨by repeat ((conv => whnf); first | exact trivial | refine ⟨rfl, ?_⟩), trivial, ?_⟩
      conv => whnf
      repeat ((conv => whnf); first | refine Br.t ?_ | refine Br.f ?_ | refine ⟨rfl, ?_⟩)
      conv => whnf
      refine ⟨i + 1, ⟨by omega, h4⟩, by omega, Le.back (fun _ => 0) (by intro id hid; rfl) (by simp) rfl (gcB_cl p _ _) ?_ rfl⟩
      simp [leS, mkS, gpS, gpF, gpN, V.up]
      exact i64_id (by omega) (by omega)
  · have g1 : i = L.length := by simp at g1; omega
    subst g1
    rw [List.drop_length, accI] at h4
    repeat ((conv => whnf); first | refine Br.t ?_ | refine Br.f ?_ | refine ⟨rfl, ?_⟩)
    conv => whnf
    exact ⟨_, Le.slots (by simp [leS, mkS, gpS, gpF, gpN]), hok h4.symm⟩
set_option maxHeartbeats 1000000 in
theorem gp_fn (p : Pg) (l : List Sec) (js : List Jst) (hj : JsOk p l js) (hs : SecsOk p l) (Q : Exit → S → Prop)
    (hbad : ∀ f i, accJ js 0 p.fs l = some (f, i) → Q .ret ⟨gpS l js [], [pgB p, fltB ((f : Int), (i : Int), 8)]⟩) (hok : accJ js 0 p.fs l = none → Q (.exit 2) ⟨gpS l js [], [pgB p, fltB (0, 0, 0)]⟩) :
    W Tryd.prog G0 0 (.loop (lp Tryd.f23 1)) Q ⟨gpS l js (gpF p 0), [pgB p, fltB (0, 0, 0)]⟩ := by
  refine W.weak (loop_ok (α := Nat) (fun f => ⟨gpS l js (gpF p f), [pgB p, fltB (0, 0, 0)]⟩)
    (fun f => f ≤ p.fs.length ∧ accJ js f (p.fs.drop f) (l.drop f) = accJ js 0 p.fs l) (fun f => p.fs.length - f) 0 ⟨Nat.zero_le _, rfl⟩ (Le.refl _ _) (fun f hf => wpx_ok (own := own0) _ _ _ ?_))
  obtain ⟨h1, h2⟩ := hf
  have hfl := hs.fl
  have hn := hs.n
  repeat ((conv => whnf); first | refine Br.t ?_ | refine Br.f ?_ | refine ⟨rfl, ?_⟩)
  conv => whnf
  refine Br.mk (fun g => ?_) (fun g => ?_)
  · have g : f < p.fs.length := by simpa using g
    obtain ⟨q1, q2⟩ := hs.sh f (by omega) g
    obtain ⟨L, hL⟩ : ∃ L, L = p.fs[f] := ⟨_, rfl⟩
    obtain ⟨s, hse⟩ : ∃ s, s = l[f]'(by omega) := ⟨_, rfl⟩
    have hLm : L ∈ p.fs := hL ▸ List.getElem_mem g
    have hsm : s ∈ l := hse ▸ List.getElem_mem (by omega)
    have eL : (p.fs.map encF).getD (f : Int).toNat [] = encF L := by rw [hL]; exact getD_enc g
    have es : (l.map encSec).getD (f : Int).toNat [] = encSec s := by rw [hse]; exact getD_enc (by omega)
    have edr : p.fs.drop f = L :: p.fs.drop (f + 1) := by rw [hL]; exact List.drop_eq_getElem_cons g
    have eds : l.drop f = s :: l.drop (f + 1) := by rw [hse]; exact List.drop_eq_getElem_cons (by omega)
    rw [← hL, ← hse] at q1 q2
    rw [edr, eds, accJ] at h2
    repeat ((conv => whnf); first | refine Br.t ?_ | refine Br.f ?_ | refine ⟨rfl, ?_⟩)
    conv => whnf
    rw [eL]
    refine ⟨⟨by omega, by simp; omega, rfl⟩, ?_⟩
    repeat ((conv => whnf); first | refine Br.t ?_ | refine Br.f ?_ | refine ⟨rfl, ?_⟩)
    conv => whnf
    refine W.le (Le.slots (sl' := gpS l js (gpF p f ++ gpN f L 0)) (by simp [leS, mkS, gpS, gpF, gpN])) (gp_node p l js hj f L s g (by omega) (by omega) (by omega) es (hs.w L hLm) (hs.ok s hsm) q1 q2 (hs.may L hLm) _ (fun i hb => ?_) (fun hb => ?_))
    · rw [hb] at h2
      simp only at h2
      repeat ((conv => whnf); first | refine Br.t ?_ | refine Br.f ?_ | refine ⟨rfl, ?_⟩)
      conv => whnf
      exact ⟨_, Le.slots (by simp [leS, mkS, gpS]), hbad _ _ h2.symm⟩
    · rw [hb] at h2
      simp only at h2
      repeat ((conv => whnf); first | refine Br.t ?_ | refine Br.f ?_ | refine ⟨rfl, ?_⟩)
      conv => whnf
      refine ⟨f + 1, ⟨by omega, h2⟩, by omega, Le.slots ?_⟩
      simp [leS, mkS, gpS, gpF]
      exact i64_id (by omega) (by omega)
  · have g : f = p.fs.length := by simp at g; omega
    subst g
    rw [List.drop_length, accJ] at h2
    · repeat ((conv => whnf); first | refine Br.t ?_ | refine Br.f ?_ | refine ⟨rfl, ?_⟩)
      conv => whnf
      exact ⟨_, Le.slots (by simp [leS, mkS, gpS, gpF]), hok h2.symm⟩
    · intros; simp_all
end Go.Proofs.YtpbbkfekibmaiaaDoor.Am
