/- Contracts: the document's word on what is wrong with a program first is the program's. -/
import Derived.Test.YtiikndppckjmhaaRcA
import Derived.Test.YtiikndppckjmhaaCaC
namespace Go.Proofs.Ytiikndppckjmhaa.Am
set_option autoImplicit false
set_option linter.unusedVariables false
set_option linter.unusedSimpArgs false
set_option maxRecDepth 10000
set_option pp.maxSteps 3000
set_option pp.proofs false
def rndMN (p : Pg) (f : Nat) : Nat → List Nd → Option Nat
  | _, [] => none
  | i, n :: r => if n.1 = 7 ∧ (n.2.1 = (f : Int) ∨ cell (mat p) n.2.1.toNat f = 1) then some i else rndMN p f (i + 1) r
def rndM (p : Pg) : Nat → List (List Nd) → Option (Nat × Nat)
  | _, [] => none
  | f, l :: r => match rndMN p f 0 l with
    | some i => some (f, i)
    | none => rndM p (f + 1) r
theorem rndMN_eq {p : Pg} (hc : Calls0 p) {f : Nat} (hf : f < p.fs.length) : ∀ (i : Nat) (l : List Nd), (∀ n ∈ l, n.1 = 7 → 0 ≤ n.2.1 ∧ n.2.1 < p.fs.length) → rndMN p f i l = rndN p f i l
  | i, [], _ => rfl
  | i, n :: r, h => by
    have ih := rndMN_eq hc hf (i + 1) r (fun m hm => h m (List.mem_cons_of_mem _ hm))
    rw [rndMN, rndN, ih]
    by_cases h7 : n.1 = 7
    · obtain ⟨a1, a2⟩ := h n List.mem_cons_self h7
      have hr := reach hc f n.2.1.toNat (by omega)
      have hm := (mat_on hc).2 n.2.1.toNat f (by omega) hf
      have e : (n.1 = 7 ∧ (n.2.1 = (f : Int) ∨ cell (mat p) n.2.1.toNat f = 1)) ↔ (n.1 = 7 ∧ (dfs p.fs f (p.fs.length + 1) n.2.1.toNat (List.replicate p.fs.length false)).1 = true) := by
        rw [hr, ← hm]
        unfold on
        constructor
        · rintro ⟨_, h | h⟩
          · exact ⟨h7, .inl (by omega)⟩
          · exact ⟨h7, .inr h⟩
        · rintro ⟨_, h | h⟩
          · exact ⟨h7, .inl (by omega)⟩
          · exact ⟨h7, .inr h⟩
      simp only [e]
    · rw [if_neg (fun h => h7 h.1), if_neg (fun h => h7 h.1)]
theorem rndM_eq {p : Pg} (hc : Calls0 p) : ∀ (f : Nat) (l : List (List Nd)), f + l.length = p.fs.length → (∀ L ∈ l, L ∈ p.fs) → rndM p f l = rndF p f l
  | f, [], _, _ => rfl
  | f, L :: r, hl, hm => by
    simp only [List.length_cons] at hl
    rw [rndM, rndF, rndMN_eq hc (by omega) 0 L (hc L (hm L List.mem_cons_self)), rndM_eq hc (f + 1) r (by omega) (fun L hL => hm L (List.mem_cons_of_mem _ hL))]
    rfl
def rcS (n : Nat) (l : List (Nat × V)) : List V := mkS 146 ([(1, .ptr 0 0 0 0), (5, .i (.int .i64 n))] ++ l)
theorem encM_get {M : List (List Nat)} {a : Nat} (h : a < M.length) : (encM M).getD (a : Int).toNat [] = [.sl ((M.getD a []).map elN)] := by
  rw [Int.toNat_natCast, encM]
  simp [List.getD_eq_getElem?_getD, h]
theorem row_get {r : List Nat} {b : Nat} (h : b < r.length) : (r.map elN).getD (b : Int).toNat [] = [.int .i64 (r.getD b 0 : Nat)] := by
  rw [Int.toNat_natCast]
  simp [List.getD_eq_getElem?_getD, h, elN]
/-- the nodes' turn -/
theorem rc_node (p : Pg) (f : Nat) (L : List Nd) (hf : f < p.fs.length) (hfl : p.fs.length ≤ 16) (eL : (p.fs.map encF).getD (f : Int).toNat [] = encF L) (hLl : L.length ≤ 64) (Q : Exit → S → Prop)
    (hbad : ∀ i, i < L.length → badN p L.length 0 L = some i → Q .ret ⟨rcS p.fs.length [(2, .i (.int .i64 f)), (3, .i (.int .i64 i)), (4, .i (.int .i64 3))], [pgB p]⟩)
    (hok : badN p L.length 0 L = none → Q (.exit 2) ⟨rcS p.fs.length [(6, .i (.int .i64 f))], [pgB p]⟩) :
    W Try.prog G0 0 (.loop (lp Try.f28 1)) Q ⟨rcS p.fs.length [(6, .i (.int .i64 f)), (7, .i (.int .i64 0))], [pgB p]⟩ := by
  refine W.weak (loop_ok (α := Nat) (fun i => ⟨rcS p.fs.length [(6, .i (.int .i64 f)), (7, .i (.int .i64 i))], [pgB p]⟩)
    (fun i => i ≤ L.length ∧ badN p L.length i (L.drop i) = badN p L.length 0 L) (fun i => L.length - i) 0 ⟨Nat.zero_le _, rfl⟩ (Le.refl _ _) (fun i hi => wpx_ok (own := own0) _ _ _ ?_))
  obtain ⟨h3, h4⟩ := hi
  repeat ((conv => whnf); first | refine Br.t ?_ | refine Br.f ?_ | refine ⟨rfl, ?_⟩)
  conv => whnf
  rw [eL]
  refine ⟨⟨by omega, by simp; omega, rfl⟩, ?_⟩
  repeat ((conv => whnf); first | refine Br.t ?_ | refine Br.f ?_ | refine ⟨rfl, ?_⟩)
  conv => whnf
  refine Br.mk (fun g1 => ?_) (fun g1 => ?_)
  · have g1 : i < L.length := by simpa using g1
    obtain ⟨x, hx⟩ : ∃ x, x = L[i] := ⟨_, rfl⟩
    have ex : (L.map encNd).getD (i : Int).toNat [] = encNd x := by rw [hx]; exact getD_enc g1
    have exd : L.drop i = x :: L.drop (i + 1) := by rw [hx]; exact List.drop_eq_getElem_cons g1
    rw [exd, badN] at h4
    obtain ⟨q, hq⟩ : ∃ q, mayF p x L.length = q := ⟨_, rfl⟩
    have cm := refmay p x (((L.map encNd).length : Nat) : Int)
    rw [List.length_map, hq] at cm
    refine draw_ok (own := own0) [] [] [(.i (.bool q), [pgB p])] rfl (by kernel_rfl) (Nat.zero_le _) ?_
    repeat ((conv => whnf); first | refine Br.t ?_ | refine Br.f ?_ | refine ⟨rfl, ?_⟩)
    conv => whnf
    rw [eL]
    refine ⟨⟨by omega, by simp; omega, rfl⟩, ?_⟩
    repeat ((conv => whnf); first | refine Br.t ?_ | refine Br.f ?_ | refine ⟨rfl, ?_⟩)
    conv => whnf
    rw [ex]
    refine ⟨⟨by omega, by simp; omega, rfl⟩, ?_⟩
    repeat ((conv => whnf); first | refine Br.t ?_ | refine Br.f ?_ | refine ⟨rfl, ?_⟩)
    conv => whnf
    rw [eL]
    refine ⟨⟨by omega, by simp; omega, rfl⟩, ?_⟩
    repeat ((conv => whnf); first | refine Br.t ?_ | refine Br.f ?_ | refine ⟨rfl, ?_⟩)
    conv => whnf
    refine ⟨by rw [List.length_map]; exact cm.pure _ rfl rfl, ?_⟩
    repeat ((conv => whnf); first | refine Br.t ?_ | refine Br.f ?_ | refine ⟨rfl, ?_⟩)
    conv => whnf
    refine ⟨by repeat ((conv => whnf); first | exact trivial | refine ⟨rfl, ?_⟩), trivial, ?_⟩
    conv => whnf
    rw [hq] at h4
    cases q with
    | false =>
      rw [if_neg (by simp)] at h4
      repeat ((conv => whnf); first | refine Br.t ?_ | refine Br.f ?_ | refine ⟨rfl, ?_⟩)
      conv => whnf
      exact ⟨_, Le.slots (by simp [leS, mkS, rcS]), hbad i g1 h4.symm⟩
    | true =>
      rw [if_pos rfl] at h4
      repeat ((conv => whnf); first | refine Br.t ?_ | refine Br.f ?_ | refine ⟨rfl, ?_⟩)
      conv => whnf
      refine ⟨i + 1, ⟨by omega, h4⟩, by omega, Le.slots ?_⟩
      simp [leS, mkS, rcS]
      exact i64_id (by omega) (by omega)
  · have g1 : i = L.length := by simp at g1; omega
    subst g1
    rw [List.drop_length, badN] at h4
    repeat ((conv => whnf); first | refine Br.t ?_ | refine Br.f ?_ | refine ⟨rfl, ?_⟩)
    conv => whnf
    exact ⟨_, Le.slots (by simp [leS, mkS, rcS]), hok h4.symm⟩
/-- the functions' turn -/
theorem rc_fn (p : Pg) (hfl : p.fs.length ≤ 16) (hw : ∀ f ∈ p.fs, f.length ≤ 9223372036854775807) (Q : Exit → S → Prop)
    (hbad : ∀ r, chkF p 0 p.fs = some r → Q .ret ⟨rcS p.fs.length [(2, .i (.int .i64 r.1)), (3, .i (.int .i64 r.2.1)), (4, .i (.int .i64 r.2.2))], [pgB p]⟩)
    (hok : chkF p 0 p.fs = none → Q (.exit 0) ⟨rcS p.fs.length [], [pgB p]⟩) :
    W Try.prog G0 0 (.loop (lp Try.f28 0)) Q ⟨rcS p.fs.length [(6, .i (.int .i64 0))], [pgB p]⟩ := by
  refine W.weak (loop_ok (α := Nat) (fun f => ⟨rcS p.fs.length [(6, .i (.int .i64 f))], [pgB p]⟩)
    (fun f => f ≤ p.fs.length ∧ chkF p f (p.fs.drop f) = chkF p 0 p.fs) (fun f => p.fs.length - f) 0 ⟨Nat.zero_le _, rfl⟩ (Le.refl _ _) (fun f hf => wpx_ok (own := own0) _ _ _ ?_))
  obtain ⟨h1, h2⟩ := hf
  repeat ((conv => whnf); first | refine Br.t ?_ | refine Br.f ?_ | refine ⟨rfl, ?_⟩)
  conv => whnf
  refine Br.mk (fun g => ?_) (fun g => ?_)
  · have g : f < p.fs.length := by simpa using g
    obtain ⟨L, hL⟩ : ∃ L, L = p.fs[f] := ⟨_, rfl⟩
    have hLm : L ∈ p.fs := hL ▸ List.getElem_mem g
    have eL : (p.fs.map encF).getD (f : Int).toNat [] = encF L := by rw [hL]; exact getD_enc g
    have edr : p.fs.drop f = L :: p.fs.drop (f + 1) := by rw [hL]; exact List.drop_eq_getElem_cons g
    have hLl := hw L hLm
    rw [edr, chkF] at h2
    repeat ((conv => whnf); first | refine Br.t ?_ | refine Br.f ?_ | refine ⟨rfl, ?_⟩)
    conv => whnf
    rw [eL]
    refine ⟨⟨by omega, by simp; omega, rfl⟩, ?_⟩
    repeat ((conv => whnf); first | refine Br.t ?_ | refine Br.f ?_ | refine ⟨rfl, ?_⟩)
    conv => whnf
    refine Br.mk (fun d => ?_) (fun d => ?_)
    · have d : L.length = 0 := by simp at d; simp [d]
      rw [if_pos d] at h2
      repeat ((conv => whnf); first | refine Br.t ?_ | refine Br.f ?_ | refine ⟨rfl, ?_⟩)
      conv => whnf
      exact ⟨_, Le.slots (by simp [leS, mkS, rcS]), hbad _ h2.symm⟩
    · have d : ¬ L.length = 0 := by intro e; simp at d; exact d (List.eq_nil_of_length_eq_zero e)
      rw [if_neg d] at h2
      repeat ((conv => whnf); first | refine Br.t ?_ | refine Br.f ?_ | refine ⟨rfl, ?_⟩)
      conv => whnf
      rw [eL]
      refine ⟨⟨by omega, by simp; omega, rfl⟩, ?_⟩
      repeat ((conv => whnf); first | refine Br.t ?_ | refine Br.f ?_ | refine ⟨rfl, ?_⟩)
      conv => whnf
      refine Br.mk (fun d2 => ?_) (fun d2 => ?_)
      · have d2 : 64 < L.length := by simp at d2; omega
        rw [if_pos d2] at h2
        repeat ((conv => whnf); first | refine Br.t ?_ | refine Br.f ?_ | refine ⟨rfl, ?_⟩)
        conv => whnf
        exact ⟨_, Le.slots (by simp [leS, mkS, rcS]), hbad _ h2.symm⟩
      · have d2 : ¬ 64 < L.length := by simp at d2; omega
        rw [if_neg d2] at h2
        repeat ((conv => whnf); first | refine Br.t ?_ | refine Br.f ?_ | refine ⟨rfl, ?_⟩)
        conv => whnf
        refine W.le (Le.slots (sl' := rcS p.fs.length [(6, .i (.int .i64 f)), (7, .i (.int .i64 0))]) (by simp [leS, mkS, rcS])) (rc_node p f L g hfl eL (by omega) _ (fun i hi hb => ?_) (fun hb => ?_))
        · rw [hb] at h2
          simp only at h2
          repeat ((conv => whnf); first | refine Br.t ?_ | refine Br.f ?_ | refine ⟨rfl, ?_⟩)
          conv => whnf
          exact ⟨_, Le.slots (by simp [leS, mkS, rcS]), hbad _ h2.symm⟩
        · rw [hb] at h2
          simp only at h2
          repeat ((conv => whnf); first | refine Br.t ?_ | refine Br.f ?_ | refine ⟨rfl, ?_⟩)
          conv => whnf
          refine ⟨f + 1, ⟨by omega, h2⟩, by omega, Le.slots ?_⟩
          simp [leS, mkS, rcS]
          exact i64_id (by omega) (by omega)
  · have g : f = p.fs.length := by simp at g; omega
    subst g
    rw [List.drop_length, chkF] at h2
    repeat ((conv => whnf); first | refine Br.t ?_ | refine Br.f ?_ | refine ⟨rfl, ?_⟩)
    conv => whnf
    exact ⟨_, Le.slots (by simp [leS, mkS, rcS]), hok h2.symm⟩
end Go.Proofs.Ytiikndppckjmhaa.Am
