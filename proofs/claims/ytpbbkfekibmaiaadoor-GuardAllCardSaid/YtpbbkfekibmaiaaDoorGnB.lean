/- Contracts: which locks are held at all accesses; the best justification. -/
import Derived.Test.YtpbbkfekibmaiaaDoorGnA
namespace Go.Proofs.YtpbbkfekibmaiaaDoor.Am
set_option autoImplicit false
set_option linter.unusedVariables false
set_option linter.unusedSimpArgs false
set_option maxRecDepth 10000
set_option pp.maxSteps 20000
set_option pp.proofs false
def accB (g : Int) (s : Sec) (i : Nat) (n : Nd) : Prop := (n.1 = 1 ∨ n.1 = 2) ∧ n.2.1 = g ∧ soloB s i = false ∧ i < (shd s).length
instance (g : Int) (s : Sec) (i : Nat) (n : Nd) : Decidable (accB g s i n) := inferInstanceAs (Decidable (_ ∧ _ ∧ _ ∧ _))
def accN (g : Int) (s : Sec) : Nat → List Nd → List (Nat × Bool)
  | _, [] => []
  | i, n :: r => (if accB g s i n then [((shd s).getD i 0, decide (n.1 = 2))] else []) ++ accN g s (i + 1) r
def accF (g : Int) : List (List Nd) → List Sec → List (Nat × Bool)
  | [], _ => []
  | _ :: _, [] => []
  | L :: r, s :: t => accN g s 0 L ++ accF g r t
def elA (x : Nat × Bool) : List I := [.int .u32 x.1]
theorem accN_ok {g : Int} {s : Sec} (hs : okSec s) : ∀ (i : Nat) (l : List Nd), (∀ x ∈ accN g s i l, x.1 < 4294967296) ∧ (accN g s i l).length ≤ l.length
  | i, [] => by simp [accN]
  | i, n :: r => by
    obtain ⟨h1, h2⟩ := accN_ok hs (i + 1) r
    rw [accN]
    split
    · rename_i h
      have hi := h.2.2.2
      have e : (shd s).getD i 0 = (shd s)[i] := by simp [List.getD_eq_getElem?_getD, hi]
      refine ⟨fun x hx => ?_, by simp; omega⟩
      simp only [List.singleton_append, List.mem_cons] at hx
      rcases hx with rfl | hx
      · simp only; rw [e]; exact hs.1.2 _ (List.getElem_mem hi)
      · exact h1 x hx
    · exact ⟨by simpa using h1, by simp; omega⟩
theorem accF_ok {g : Int} : ∀ (fs : List (List Nd)) (l : List Sec), (∀ s ∈ l, okSec s) → (∀ f ∈ fs, f.length ≤ 100) → (∀ x ∈ accF g fs l, x.1 < 4294967296) ∧ (accF g fs l).length ≤ 100 * fs.length
  | [], l, _, _ => by simp [accF]
  | _ :: _, [], _, _ => by simp [accF]
  | L :: r, s :: t, h1, h2 => by
    obtain ⟨a1, a2⟩ := accF_ok (g := g) r t (fun s hs => h1 s (List.mem_cons_of_mem _ hs)) (fun f hf => h2 f (List.mem_cons_of_mem _ hf))
    obtain ⟨b1, b2⟩ := accN_ok (g := g) (h1 s List.mem_cons_self) 0 L
    have hL := h2 L List.mem_cons_self
    rw [accF]
    refine ⟨fun x hx => ?_, ?_⟩
    · rcases List.mem_append.1 hx with hx | hx
      · exact b1 x hx
      · exact a1 x hx
    · simp only [List.length_append, List.length_cons]; omega
theorem accF_nil {g : Int} {fs : List (List Nd)} {l : List Sec} (h : fs = [] ∨ l = []) : accF g fs l = [] := by
  rcases h with rfl | rfl
  · rw [accF]
  · cases fs <;> rw [accF]
def needsV (a : List (Nat × Bool)) : V := .tup [.i (.int .u32 (meetN (a.map Prod.fst) : Nat)), .i (.bool (decide (0 < a.length))), .i (.bool (a.any Prod.snd))]
def needS (l : List Sec) (g : Int) (acc : List (Nat × Bool)) (mn f : Nat) : List (Nat × V) :=
  [(1, .i (.sl (l.map encSec))), (2, .i (.int .i64 g)), (3, .ptr 0 0 0 0), (9, .ref 1 1 0 acc.length), (10, .i (.bool (acc.any Prod.snd))), (22, .i (.int .i64 mn)), (23, .i (.int .i64 f))]
theorem ndA_cl (p : Pg) (is : List (List I)) (m : Nat) : ∀ o ∈ [pgB p, Ob.row 1 1 false (lift is)], o.cl m := by
  intro o ho
  simp only [List.mem_cons, List.not_mem_nil, or_false] at ho
  rcases ho with rfl | rfl
  · exact pgB_cl p m
  · exact row_cl 1 1 is m _ (by simp)
set_option maxHeartbeats 2000000 in
theorem needs16 (p : Pg) (l : List Sec) (g : Int) (h1 : p.fs.length ≤ 40) (h2 : ∀ f ∈ p.fs, f.length ≤ 100) (h3 : l.length ≤ 40) (h4 : ∀ s ∈ l, okSec s) (h5 : ∀ s ∈ l, (shd s).length ≤ 100) :
    CallW Tryd.prog G0 16 [pgV p, .i (.sl (l.map encSec)), .i (.int .i64 g)] [] (fun r st' => r = needsV (accF g p.fs l) ∧ st' = []) := by
  refine call_of_bodyF 0 (Nat.le_refl _) Tryd.func16 rfl (fun a w => Tryd.call16 a w) (wpx_ok (own := own0) _ _ _ ?_)
  obtain ⟨A, hA⟩ : ∃ A, A = accF g p.fs l := ⟨_, rfl⟩
  obtain ⟨ok1, ok2⟩ := accF_ok (g := g) p.fs l h4 h2
  rw [← hA] at ok1 ok2 ⊢
  obtain ⟨mn, hmn⟩ : ∃ mn, mn = min p.fs.length l.length := ⟨_, rfl⟩
  have hm1 : mn ≤ p.fs.length := by omega
  have hm2 : mn ≤ l.length := by omega
  repeat ((conv => whnf); first | refine Br.t ?_ | refine Br.f ?_ | refine ⟨rfl, ?_⟩)
  conv => whnf
  refine loop_ok (α := Nat × List (Nat × Bool)) (fun x => ⟨mkS 91 (needS l g x.2 mn x.1), [pgB p, .row 1 1 false (lift (x.2.map elA))]⟩)
    (fun x => x.1 ≤ mn ∧ x.2 ++ accF g (p.fs.drop x.1) (l.drop x.1) = A) (fun x => mn - x.1) (0, []) ⟨Nat.zero_le _, by rw [List.drop_zero, List.drop_zero, ← hA]; rfl⟩
    ((Le.nil (n := 0) 9 1 rfl).trans (Le.slots (by simp [leS, mkS, needS, hmn]; split <;> omega))) (fun x hx => wpx_ok (own := own0) _ _ _ ?_)
  obtain ⟨f, acc⟩ := x
  obtain ⟨q1, q2⟩ := hx
  simp only at q1 q2
  dsimp only
  repeat ((conv => whnf); first | refine Br.t ?_ | refine Br.f ?_ | refine ⟨rfl, ?_⟩)
  conv => whnf
  refine Br.mk (fun g1 => ?_) (fun g1 => ?_)
  · have g1 : f < mn := by simpa using g1
    obtain ⟨L, hL⟩ : ∃ L, L = p.fs[f]'(by omega) := ⟨_, rfl⟩
    have hLm : L ∈ p.fs := hL ▸ List.getElem_mem _
    have eL : (p.fs.map encF).getD (f : Int).toNat [] = encF L := by rw [hL]; exact getD_enc (by omega)
    have edr : p.fs.drop f = L :: p.fs.drop (f + 1) := by rw [hL]; exact List.drop_eq_getElem_cons (by omega)
    obtain ⟨s, hs⟩ : ∃ s, s = l[f]'(by omega) := ⟨_, rfl⟩
    have hsm : s ∈ l := hs ▸ List.getElem_mem _
    have es : (l.map encSec).getD (f : Int).toNat [] = encSec s := by rw [hs]; exact getD_enc (by omega)
    have eds : l.drop f = s :: l.drop (f + 1) := by rw [hs]; exact List.drop_eq_getElem_cons (by omega)
    have hLl := h2 L hLm
    have oks := h4 s hsm
    have hsl := h5 s hsm
    rw [edr, eds, accF] at q2
    repeat ((conv => whnf); first | refine Br.t ?_ | refine Br.f ?_ | refine ⟨rfl, ?_⟩)
    conv => whnf
    rw [eL]
    refine ⟨⟨by omega, by simp; omega, rfl⟩, ?_⟩
    repeat ((conv => whnf); first | refine Br.t ?_ | refine Br.f ?_ | refine ⟨rfl, ?_⟩)
    conv => whnf
    refine loop_ok (α := Nat × List (Nat × Bool)) (fun x => ⟨mkS 91 (needS l g x.2 mn f ++ [(11, .i (.int .i64 f)), (30, .i (.sl (L.map encNd))), (31, .i (.int .i64 (L.map encNd).length)), (32, .i (.int .i64 x.1))]), [pgB p, .row 1 1 false (lift (x.2.map elA))]⟩)
      (fun x => x.1 ≤ L.length ∧ x.2 ++ (accN g s x.1 (L.drop x.1) ++ accF g (p.fs.drop (f + 1)) (l.drop (f + 1))) = A) (fun x => L.length - x.1) (0, acc) ⟨Nat.zero_le _, q2⟩
      (Le.slots (by simp [leS, mkS, needS])) (fun x hx => wpx_ok (own := own0) _ _ _ ?_)
    obtain ⟨i, ac⟩ := x
    obtain ⟨r1, r2⟩ := hx
    simp only at r1 r2
    dsimp only
    repeat ((conv => whnf); first | refine Br.t ?_ | refine Br.f ?_ | refine ⟨rfl, ?_⟩)
    conv => whnf
    refine Br.mk (fun g2 => ?_) (fun g2 => ?_)
    · have g2 : i < L.length := by simpa using g2
      obtain ⟨y, hy⟩ : ∃ y, y = L[i] := ⟨_, rfl⟩
      have hym : y ∈ L := hy ▸ List.getElem_mem g2
      have ey : (L.map encNd).getD (i : Int).toNat [] = encNd y := by rw [hy]; exact getD_enc g2
      have edy : L.drop i = y :: L.drop (i + 1) := by rw [hy]; exact List.drop_eq_getElem_cons g2
      rw [edy, accN] at r2
      repeat ((conv => whnf); first | refine Br.t ?_ | refine Br.f ?_ | refine ⟨rfl, ?_⟩)
      conv => whnf
      rw [ey]
      refine ⟨⟨by omega, by simp; omega, rfl⟩, ?_⟩
      repeat ((conv => whnf); first | refine Br.t ?_ | refine Br.f ?_ | refine ⟨rfl, ?_⟩)
      conv => whnf
      refine CallW.mono ((access29 y).pure _ rfl rfl) ?_
      rintro r st' ⟨rfl, rfl⟩
      repeat ((conv => whnf); first | refine Br.t ?_ | refine Br.f ?_ | refine ⟨rfl, ?_⟩)
      conv => whnf
      refine Br.mk (fun k1 => ?_) (fun k1 => ?_)
      · have k1 : ¬ (y.1 = 1 ∨ y.1 = 2) := by simpa using k1
        have hno : ¬ accB g s i y := fun h => k1 h.1
        rw [if_neg hno, List.nil_append] at r2
        repeat ((conv => whnf); first | refine Br.t ?_ | refine Br.f ?_ | refine ⟨rfl, ?_⟩)
        conv => whnf
        refine ⟨(i + 1, ac), ⟨by simp only; omega, r2⟩, by simp only; omega, Le.back (fun _ => 0) (by intro id hid; rfl) (by simp) rfl ?_ ?_ ?_⟩
        · exact ndA_cl p _ _
        · simp [leS, mkS, needS, V.up]
          exact i64_id (by omega) (by omega)
        · simp only [upSt, Ob.up, map_up_lift]
          rfl
      · have k1 : y.1 = 1 ∨ y.1 = 2 := by simp at k1; omega
        repeat ((conv => whnf); first | refine Br.t ?_ | refine Br.f ?_ | refine ⟨rfl, ?_⟩)
        conv => whnf
        refine Br.mk (fun k2 => ?_) (fun k2 => ?_)
        · have k2 : y.2.1 ≠ g := by simpa using k2
          have hno : ¬ accB g s i y := fun h => k2 h.2.1
          rw [if_neg hno, List.nil_append] at r2
          repeat ((conv => whnf); first | refine Br.t ?_ | refine Br.f ?_ | refine ⟨rfl, ?_⟩)
          conv => whnf
          refine ⟨(i + 1, ac), ⟨by simp only; omega, r2⟩, by simp only; omega, Le.back (fun _ => 0) (by intro id hid; rfl) (by simp) rfl ?_ ?_ ?_⟩
          · exact ndA_cl p _ _
          · simp [leS, mkS, needS, V.up]
            exact i64_id (by omega) (by omega)
          · simp only [upSt, Ob.up, map_up_lift]
            rfl
        · have k2 : y.2.1 = g := by simpa using k2
          repeat ((conv => whnf); first | refine Br.t ?_ | refine Br.f ?_ | refine ⟨rfl, ?_⟩)
          conv => whnf
          rw [es]
          refine ⟨⟨by omega, by simp; omega, rfl⟩, ?_⟩
          repeat ((conv => whnf); first | refine Br.t ?_ | refine Br.f ?_ | refine ⟨rfl, ?_⟩)
          conv => whnf
          refine CallW.mono ((solo30 s oks i).pure _ rfl rfl) ?_
          rintro r st' ⟨rfl, rfl⟩
          repeat ((conv => whnf); first | refine Br.t ?_ | refine Br.f ?_ | refine ⟨rfl, ?_⟩)
          conv => whnf
          refine Br.mk (fun k3 => ?_) (fun k3 => ?_)
          · have hno : ¬ accB g s i y := fun h => by rw [h.2.2.1] at k3; cases k3
            rw [if_neg hno, List.nil_append] at r2
            repeat ((conv => whnf); first | refine Br.t ?_ | refine Br.f ?_ | refine ⟨rfl, ?_⟩)
            conv => whnf
            refine ⟨(i + 1, ac), ⟨by simp only; omega, r2⟩, by simp only; omega, Le.back (fun _ => 0) (by intro id hid; rfl) (by simp) rfl ?_ ?_ ?_⟩
            · exact ndA_cl p _ _
            · simp [leS, mkS, needS, V.up]
              exact i64_id (by omega) (by omega)
            · simp only [upSt, Ob.up, map_up_lift]
              rfl
          · repeat ((conv => whnf); first | refine Br.t ?_ | refine Br.f ?_ | refine ⟨rfl, ?_⟩)
            conv => whnf
            rw [es]
            refine ⟨⟨by omega, by simp; omega, rfl⟩, ?_⟩
            repeat ((conv => whnf); first | refine Br.t ?_ | refine Br.f ?_ | refine ⟨rfl, ?_⟩)
            conv => whnf
            refine Br.mk (fun k4 => ?_) (fun k4 => ?_)
            · have k4 : (shd s).length ≤ i := by simpa using k4
              have hno : ¬ accB g s i y := fun h => by have := h.2.2.2; omega
              rw [if_neg hno, List.nil_append] at r2
              repeat ((conv => whnf); first | refine Br.t ?_ | refine Br.f ?_ | refine ⟨rfl, ?_⟩)
              conv => whnf
              refine ⟨(i + 1, ac), ⟨by simp only; omega, r2⟩, by simp only; omega, Le.back (fun _ => 0) (by intro id hid; rfl) (by simp) rfl ?_ ?_ ?_⟩
              · exact ndA_cl p _ _
              · simp [leS, mkS, needS, V.up]
                exact i64_id (by omega) (by omega)
              · simp only [upSt, Ob.up, map_up_lift]
                rfl
            · have k4 : i < (shd s).length := by simpa using k4
              have hyes : accB g s i y := ⟨k1, k2, k3, k4⟩
              have eh : ((shd s).map el32).getD (i : Int).toNat [] = elA ((shd s).getD i 0, decide (y.1 = 2)) := by
                rw [Int.toNat_natCast]
                simp [List.getD_eq_getElem?_getD, k4, el32, elA]
              rw [if_pos hyes, ← List.append_assoc, ← List.append_assoc] at r2
              repeat ((conv => whnf); first | refine Br.t ?_ | refine Br.f ?_ | refine ⟨rfl, ?_⟩)
              conv => whnf
              rw [es]
              refine ⟨⟨by omega, by simp; omega, rfl⟩, ?_⟩
              repeat ((conv => whnf); first | refine Br.t ?_ | refine Br.f ?_ | refine ⟨rfl, ?_⟩)
              conv => whnf
              rw [eh]
              refine ⟨⟨by omega, by simp; omega, rfl⟩, ?_⟩
              repeat ((conv => whnf); first | refine Br.t ?_ | refine Br.f ?_ | refine ⟨rfl, ?_⟩)
              conv => whnf
              have hal : ac.length + 1 ≤ A.length := by rw [← r2]; simp only [List.length_append, List.length_singleton]; omega
              refine ⟨⟨by intro cs hcs; simp at hcs; subst hcs; rfl, by simp [lift], by show (ac.length + 1) * 4 ≤ _; omega, len_mx (by simp [lift]; omega)⟩, ?_⟩
              repeat ((conv => whnf); first | refine Br.t ?_ | refine Br.f ?_ | refine ⟨rfl, ?_⟩)
              conv => whnf
              refine Br.mk (fun k5 => ?_) (fun k5 => ?_)
              · repeat ((conv => whnf); first | refine Br.t ?_ | refine Br.f ?_ | refine ⟨rfl, ?_⟩)
                conv => whnf
                refine ⟨(i + 1, ac ++ [((shd s).getD i 0, decide (y.1 = 2))]), ⟨by simp only; omega, by rw [← r2]; simp only [List.append_assoc]⟩, by simp only; omega, Le.back (fun id => if id = 1 then 1 else 0) (by intro id hid; simp at hid) (by simp) rfl ?_ ?_ ?_⟩
                · exact ndA_cl p _ _
                · simp [leS, mkS, needS, V.up, lift, k5, List.any_append]
                  exact i64_id (by omega) (by omega)
                · simp only [upSt, Ob.up, map_up_lift, List.map_append, lift_app]
                  rfl
              · repeat ((conv => whnf); first | refine Br.t ?_ | refine Br.f ?_ | refine ⟨rfl, ?_⟩)
                conv => whnf
                refine ⟨(i + 1, ac ++ [((shd s).getD i 0, decide (y.1 = 2))]), ⟨by simp only; omega, by rw [← r2]; simp only [List.append_assoc]⟩, by simp only; omega, Le.back (fun id => if id = 1 then 1 else 0) (by intro id hid; simp at hid) (by simp) rfl ?_ ?_ ?_⟩
                · exact ndA_cl p _ _
                · simp [leS, mkS, needS, V.up, lift, k5, List.any_append]
                  exact i64_id (by omega) (by omega)
                · simp only [upSt, Ob.up, map_up_lift, List.map_append, lift_app]
                  rfl
    · have g2 : i = L.length := by simp at g2; omega
      subst g2
      rw [List.drop_length, accN, List.nil_append] at r2
      repeat ((conv => whnf); first | refine Br.t ?_ | refine Br.f ?_ | refine ⟨rfl, ?_⟩)
      conv => whnf
      refine ⟨(f + 1, ac), ⟨by simp only; omega, r2⟩, by simp only; omega, Le.slots ?_⟩
      simp [leS, mkS, needS]
      exact i64_id (by omega) (by omega)
  · have g1 : f = mn := by simp at g1; omega
    subst g1
    rw [accF_nil (by
      by_cases h : p.fs.length ≤ f
      · exact .inl (List.drop_eq_nil_of_le h)
      · exact .inr (List.drop_eq_nil_of_le (by omega))), List.append_nil] at q2
    subst q2
    repeat ((conv => whnf); first | refine Br.t ?_ | refine Br.f ?_ | refine ⟨rfl, ?_⟩)
    conv => whnf
    have eA : (acc.map Prod.fst).map el32 = acc.map elA := by rw [List.map_map]; rfl
    have cM := meet31 (acc.map Prod.fst) (by rw [List.length_map]; omega) (fun m hm => by
      simp only [List.mem_map] at hm
      obtain ⟨x, hx, rfl⟩ := hm
      exact ok1 x hx)
    rw [eA] at cM
    refine CallW.mono (CallW.ref1 (id := 1) (ver := 1) (sz := 1) (ro := false) _ cM rfl (by simp) rfl rfl) ?_
    rintro r st' ⟨rfl, rfl⟩
    repeat ((conv => whnf); first | refine Br.t ?_ | refine Br.f ?_ | refine ⟨rfl, ?_⟩)
    conv => whnf
    refine fin (target := []) rfl (Nat.zero_le _) (by simp) ?_ rfl
    simp [needsV]
theorem all27 (n : Nat) (hn : n ≤ 32) : CallW Tryd.prog G0 27 [.i (.int .i64 n)] [] (fun r st' => r = .i (.int .u32 (2 ^ n - 1 : Nat)) ∧ st' = []) := by
  refine call_of_bodyF 0 (Nat.le_refl _) Tryd.func27 rfl (fun a w => Tryd.call27 a w) (wpx_ok (own := own0) _ _ _ ?_)
  have e1 : (if false = true then if 32 > (n : Int) then 32 else (n : Int) else if 32 < (n : Int) then 32 else (n : Int)) = n := by simp; omega
  have e2 : (if true = true then if 0 > (n : Int) then 0 else (n : Int) else if 0 < (n : Int) then 0 else (n : Int)) = n := by simp; omega
  repeat ((conv => whnf); first | refine Br.t ?_ | refine Br.f ?_ | refine ⟨rfl, ?_⟩)
  conv => whnf
  rw [e1, e2]
  refine ⟨by omega, ?_⟩
  repeat ((conv => whnf); first | refine Br.t ?_ | refine Br.f ?_ | refine ⟨rfl, ?_⟩)
  conv => whnf
  refine fin (target := []) rfl (Nat.zero_le _) (by simp) ?_ rfl
  have h1 := pow33 hn
  have h0 : 0 < 2 ^ n := Nat.pow_pos (by decide)
  have e3 : (2 : Int) ^ n = ((2 ^ n : Nat) : Int) := by simp
  rw [Int.toNat_natCast, Nat.min_eq_left (by show n ≤ 64; omega), Int.one_mul, e3, u64_small (by omega), show ((2 ^ n : Nat) : Int) - 1 = ((2 ^ n - 1 : Nat) : Int) by omega, u64_small (by omega), u32_small (by omega)]
def pX : Pg := ⟨1, 2, 0, [[(2, 0, 1, 0), (9, 0, 0, 0)]]⟩
def sX : Sec := (0, 0, [2, 0], 0, 0, [1, 1])
theorem needs_X : needsV (accF 0 pX.fs [sX]) = .tup [.i (.int .u32 2), .i (.bool true), .i (.bool true)] := by rfl
theorem okX : ∀ s ∈ [sX], okSec s := by
  intro s hs
  simp only [List.mem_singleton] at hs
  subst hs
  exact ⟨⟨by decide, by decide⟩, by decide, by decide⟩
theorem ctz2 : Lib.ctz 32 2 = 1 := by decide
theorem best14 : CallW Tryd.prog G1 14 [pgV pX, .i (.sl ([sX].map encSec)), .i (.int .i64 0)] [] (fun r st' => r = .tup [.agg [.i (.int .i64 2), .i (.int .i64 1)], .i (.bool true)] ∧ st' = []) := by
  refine call_of_bodyF 0 (Nat.le_refl _) Tryd.func14 rfl (fun a w => Tryd.call14 a w) (wpx_ok (own := own0) _ _ _ ?_)
  have c := needs16 pX [sX] 0 (by decide) (by decide) (by decide) okX (by decide)
  rw [needs_X] at c
  repeat ((conv => whnf); first | refine Br.t ?_ | refine Br.f ?_ | refine ⟨rfl, ?_⟩)
  conv => whnf
  refine CallW.mono ((c.glob).pure _ rfl rfl) ?_
  rintro r st' ⟨rfl, rfl⟩
  repeat ((conv => whnf); first | refine Br.t ?_ | refine Br.f ?_ | refine ⟨rfl, ?_⟩)
  conv => whnf
  refine CallW.mono (((all27 2 (by decide)).glob).pure _ rfl rfl) ?_
  rintro r st' ⟨rfl, rfl⟩
  repeat ((conv => whnf); first | refine Br.t ?_ | refine Br.f ?_ | refine ⟨rfl, ?_⟩)
  conv => whnf
  have c2 := least28 2 (by decide) (by decide)
  rw [ctz2] at c2
  refine CallW.mono (c2.pure _ rfl rfl) ?_
  rintro r st' ⟨rfl, rfl⟩
  repeat ((conv => whnf); first | refine Br.t ?_ | refine Br.f ?_ | refine ⟨rfl, ?_⟩)
  conv => whnf
  refine fin (target := []) rfl (Nat.zero_le _) (by simp) rfl rfl
def secX : List Sec := [sX]
theorem awake9 : CallW Tryd.prog G1 9 [] [] (fun r st' => r = .i (.bool true) ∧ st' = []) := by
  refine call_of_bodyF 0 (Nat.le_refl _) Tryd.func9 rfl (fun a w => Tryd.call9 a w) (wpx_ok (own := own0) _ _ _ ?_)
  repeat ((conv => whnf); first | refine Br.t ?_ | refine Br.f ?_ | refine ⟨rfl, ?_⟩)
  conv => whnf
  have c := best14.pure (v := .tup [.agg [.i (.int .i64 2), .i (.int .i64 1)], .i (.bool true)]) [.row 0 4 false [[.i (.int .i64 1), .i (.int .i64 2), .i (.int .i64 0), .i (.sl [[.sl [[.int .i64 2, .int .i64 0, .int .i64 1, .int .i64 0], [.int .i64 9, .int .i64 0, .int .i64 0, .int .i64 0]]]])]]] rfl rfl
  refine CallW.mono c ?_
  rintro r st' ⟨rfl, rfl⟩
  repeat ((conv => whnf); first | refine Br.t ?_ | refine Br.f ?_ | refine ⟨rfl, ?_⟩)
  conv => whnf
  refine ⟨by kernel_rfl, ?_⟩
  repeat ((conv => whnf); first | refine Br.t ?_ | refine Br.f ?_ | refine ⟨rfl, ?_⟩)
  conv => whnf
  refine fin (target := []) rfl (Nat.zero_le _) (by simp) rfl rfl
end Go.Proofs.YtpbbkfekibmaiaaDoor.Am
