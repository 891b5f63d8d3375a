/- Contracts: the best justification, and the first one that holds, by trying. -/
import Derived.Test.YtpbbkfekibmaiaaDoorGoA
import Derived.Test.YtpbbkfekibmaiaaDoorAmRf
namespace Go.Proofs.YtpbbkfekibmaiaaDoor.Am
set_option autoImplicit false
set_option linter.unusedVariables false
set_option linter.unusedSimpArgs false
set_option maxRecDepth 10000
set_option pp.maxSteps 3000
set_option pp.proofs false
def bestJ (n : Nat) (A : List (Nat × Bool)) : Jst × Bool :=
  if A.length = 0 then ((0, 0), true) else if A.any Prod.snd = false then ((1, 0), true) else
  if meetN (A.map Prod.fst) &&& (2 ^ n - 1) = 0 then ((0, 0), false) else ((2, (Lib.ctz 32 (meetN (A.map Prod.fst) &&& (2 ^ n - 1)) : Nat)), true)
theorem meet_bit' (i : Nat) : ∀ (l : List Nat) (m : Nat), (l.foldl (· &&& ·) m).testBit i = (m.testBit i && l.all fun x => x.testBit i)
  | [], m => by simp
  | x :: l, m => by rw [List.foldl_cons, meet_bit' i l, Nat.testBit_and, List.all_cons, Bool.and_assoc]
theorem meet_lt' (l : List Nat) : meetN l < 4294967296 := lt32 fun i hi => by
  rw [meetN, meet_bit', tb32 (by decide) hi]; rfl
theorem bestP (p : Pg) (l : List Sec) (g : Int) (h1 : p.fs.length ≤ 40) (h2 : ∀ f ∈ p.fs, f.length ≤ 100) (h3 : l.length ≤ 40) (h4 : ∀ s ∈ l, okSec s) (h5 : ∀ s ∈ l, (shd s).length ≤ 100) (n : Nat) (hn : p.l = n) (hn32 : n ≤ 32) :
    CallW Tryd.prog G1 14 [pgV p, .i (.sl (l.map encSec)), .i (.int .i64 g)] [] (fun r st' => r = .tup [jV (bestJ n (accF g p.fs l)).1, .i (.bool (bestJ n (accF g p.fs l)).2)] ∧ st' = []) := by
  refine call_of_bodyF 0 (Nat.le_refl _) Tryd.func14 rfl (fun a w => Tryd.call14 a w) (wpx_ok (own := own0) _ _ _ ?_)
  have c := needs16 p l g h1 h2 h3 h4 h5
  obtain ⟨A, hA⟩ : ∃ A, A = accF g p.fs l := ⟨_, rfl⟩
  rw [← hA] at c ⊢
  obtain ⟨m, hm⟩ : ∃ m, m = meetN (A.map Prod.fst) := ⟨_, rfl⟩
  have hml : m < 4294967296 := by rw [hm]; exact meet_lt' _
  unfold bestJ
  rw [← hm]
  unfold needsV at c
  rw [← hm] at c
  repeat ((conv => whnf); first | refine Br.t ?_ | refine Br.f ?_ | refine ⟨rfl, ?_⟩)
  conv => whnf
  refine CallW.mono ((c.glob).pure _ rfl rfl) ?_
  rintro r st' ⟨rfl, rfl⟩
  repeat ((conv => whnf); first | refine Br.t ?_ | refine Br.f ?_ | refine ⟨rfl, ?_⟩)
  conv => whnf
  rw [hn]
  refine CallW.mono (((all27 n hn32).glob).pure _ rfl rfl) ?_
  rintro r st' ⟨rfl, rfl⟩
  repeat ((conv => whnf); first | refine Br.t ?_ | refine Br.f ?_ | refine ⟨rfl, ?_⟩)
  conv => whnf
  have hpl : 2 ^ n - 1 < 4294967296 := by have := pow33 hn32; omega
  rw [and32 hml hpl]
  obtain ⟨a, ha⟩ : ∃ a, a = m &&& (2 ^ n - 1) := ⟨_, rfl⟩
  have hal : a < 4294967296 := by rw [ha]; exact and_lt hml
  rw [← ha]
  by_cases k0 : A.length = 0
  · rw [if_pos k0]
    have e : A = [] := List.eq_nil_of_length_eq_zero k0
    subst e
    repeat ((conv => whnf); first | refine Br.t ?_ | refine Br.f ?_ | refine ⟨rfl, ?_⟩)
    conv => whnf
    refine fin (target := []) rfl (Nat.zero_le _) (by simp) rfl rfl
  · rw [if_neg k0]
    have e : decide (0 < A.length) = true := by simp; omega
    rw [e]
    obtain ⟨w, hw⟩ : ∃ w, w = A.any Prod.snd := ⟨_, rfl⟩
    rw [← hw]
    cases w with
    | false =>
      rw [if_pos rfl]
      repeat ((conv => whnf); first | refine Br.t ?_ | refine Br.f ?_ | refine ⟨rfl, ?_⟩)
      conv => whnf
      refine fin (target := []) rfl (Nat.zero_le _) (by simp) rfl rfl
    | true =>
      rw [if_neg (by simp)]
      repeat ((conv => whnf); first | refine Br.t ?_ | refine Br.f ?_ | refine ⟨rfl, ?_⟩)
      conv => whnf
      refine Br.mk (fun k1 => ?_) (fun k1 => ?_)
      · have k1 : a ≠ 0 := by simp at k1; omega
        rw [if_neg k1]
        repeat ((conv => whnf); first | refine Br.t ?_ | refine Br.f ?_ | refine ⟨rfl, ?_⟩)
        conv => whnf
        refine CallW.mono ((least28 a hal k1).pure _ rfl rfl) ?_
        rintro r st' ⟨rfl, rfl⟩
        repeat ((conv => whnf); first | refine Br.t ?_ | refine Br.f ?_ | refine ⟨rfl, ?_⟩)
        conv => whnf
        refine fin (target := []) rfl (Nat.zero_le _) (by simp) rfl rfl
      · have k1 : a = 0 := by simp at k1; omega
        rw [if_pos k1]
        repeat ((conv => whnf); first | refine Br.t ?_ | refine Br.f ?_ | refine ⟨rfl, ?_⟩)
        conv => whnf
        refine fin (target := []) rfl (Nat.zero_le _) (by simp) rfl rfl
/-- whether a justification holds for all accesses, from a node on -/
def okN (j : Jst) (g : Int) (s : Sec) : Nat → List Nd → Bool
  | _, [] => true
  | i, n :: r => (if (n.1 = 1 ∨ n.1 = 2) ∧ n.2.1 = g then holdsB j (decide (n.1 = 2)) ((shd s).getD i 0) ((slv s).getD i 0) else true) && okN j g s (i + 1) r
def okF (j : Jst) (g : Int) : List (List Nd) → List Sec → Bool
  | L :: fs, s :: l => okN j g s 0 L && okF j g fs l
  | _, _ => true
def lk (i : Nat) : Jst := (2, i)
def tryL (k : Nat) : List Jst := [(0, 0), (1, 0)] ++ (List.range k).map lk
theorem tryL_snoc (k : Nat) : tryL (k + 1) = tryL k ++ [lk k] := by simp [tryL, List.range_succ]
theorem tryL_len (k : Nat) : (tryL k).length = k + 2 := by simp [tryL]
theorem tryL_lock {k : Nat} {j : Jst} (h : j ∈ tryL k) : j.1 = 2 → 0 ≤ j.2 ∧ j.2 < k := by
  simp only [tryL, List.mem_append, List.mem_cons, List.not_mem_nil, or_false, List.mem_map, List.mem_range] at h
  rcases h with (rfl | rfl) | ⟨i, hi, rfl⟩
  · intro h; simp at h
  · intro h; simp at h
  · intro _; simp only [lk]; omega
def rbS (l : List Sec) (g : Int) (x : List (Nat × V)) : List V := mkS 107 ([(1, .i (.sl (l.map encSec))), (2, .i (.int .i64 g)), (3, .ptr 0 0 0 0), (6, .ptr 1 0 0 0), (7, .i (.int .i64 0))] ++ x)
def rbT (p : Pg) : List Ob := [pgB p, jB (0, 0)]
theorem rbT_cl (p : Pg) : ∀ o ∈ rbT p, o.cl 2 := by
  intro o ho
  simp only [rbT, List.mem_cons, List.not_mem_nil, or_false] at ho
  rcases ho with rfl | rfl
  · exact pgB_cl p _
  · intro cs hcs; simp only [List.mem_singleton] at hcs; subst hcs; rfl
theorem rb_try (p : Pg) (l : List Sec) (g : Int) (n : Nat) (hn : p.l = n) (hn32 : n ≤ 32) :
    W Tryd.prog G0 0 (.loop (lp Tryd.f15 0)) (fun e s' => e = .exit 0 ∧ s' = ⟨rbS l g [(8, .i (.sl ((tryL n).map encJ)))], rbT p⟩) ⟨rbS l g [(8, .ref 2 1 0 2), (9, .i (.int .i64 0))], rbT p ++ [.row 1 2 false (lift ((tryL 0).map encJ))]⟩ := by
  refine W.weak (loop_ok (α := Nat) (fun k => ⟨rbS l g [(8, .ref 2 1 0 (tryL k).length), (9, .i (.int .i64 k))], rbT p ++ [.row 1 2 false (lift ((tryL k).map encJ))]⟩)
    (fun k => k ≤ n) (fun k => n - k) 0 (Nat.zero_le _) (by rw [tryL_len]; exact Le.refl _ _) (fun k hk => wpx_ok (own := own0) _ _ _ ?_))
  repeat ((conv => whnf); first | refine Br.t ?_ | refine Br.f ?_ | refine ⟨rfl, ?_⟩)
  conv => whnf
  refine Br.mk (fun g1 => ?_) (fun g1 => ?_)
  · have g1 : k < n := by simp at g1; omega
    repeat ((conv => whnf); first | refine Br.t ?_ | refine Br.f ?_ | refine ⟨rfl, ?_⟩)
    conv => whnf
    refine ⟨⟨by intro cs hcs; simp at hcs; subst hcs; rfl, by simp [lift], by rw [tryL_len]; show (k + 2 + 1) * 16 ≤ _; omega, len_mx (by rw [tryL_len]; simp [lift]; omega)⟩, ?_⟩
    repeat ((conv => whnf); first | refine Br.t ?_ | refine Br.f ?_ | refine ⟨rfl, ?_⟩)
    conv => whnf
    refine ⟨k + 1, by omega, by omega, Le.back (fun id => if id = 2 then 1 else 0) (by intro id hid; omega) (by simp) rfl ?_ ?_ ?_⟩
    · intro o ho
      simp only [rbT, List.cons_append, List.nil_append, List.mem_cons, List.not_mem_nil, or_false] at ho
      rcases ho with rfl | rfl | rfl
      · exact pgB_cl p _
      · intro cs hcs; simp only [List.mem_singleton] at hcs; subst hcs; rfl
      · exact row_cl 1 2 ((tryL (k + 1)).map encJ) _ _ (by simp)
    · simp [leS, mkS, rbS, V.up, tryL_len, lift]
      exact i64_id (by omega) (by omega)
    · rw [tryL_snoc]
      simp only [upSt, Ob.up, map_up_lift, List.map_append, lift_app, rbT, List.cons_append, List.nil_append]
      rfl
  · have g1 : k = n := by simp at g1; omega
    subst g1
    repeat ((conv => whnf); first | refine Br.t ?_ | refine Br.f ?_ | refine ⟨rfl, ?_⟩)
    conv => whnf
    refine ⟨_, (Le.data 2 1 2 ((tryL k).map encJ) (s := ⟨rbS l g [(8, .i (.sl ((tryL k).map encJ)))], rbT p ++ [.dead]⟩) rfl ?_ rfl).trans (Le.short (Nat.zero_le _) rfl (rbT_cl p)), rfl, rfl⟩
    simp [leS, mkS, rbS, V.dat]
    exact List.take_of_length_le (by simp)
set_option maxHeartbeats 1000000 in
theorem rb_node (p : Pg) (l : List Sec) (g : Int) (T : List Jst) (k : Nat) (j : Jst) (hk : k < T.length) (ej : (T.map encJ).getD (k : Int).toNat [] = encJ j) (hT : T.length ≤ 100) (hj : j.1 = 2 → 0 ≤ j.2 ∧ j.2 < 32) (f : Nat) (L : List Nd) (s : Sec) (hf : f < p.fs.length) (hfl : p.fs.length ≤ 40) (hfs : f < l.length) (hll : l.length ≤ 40)
    (eL : (p.fs.map encF).getD (f : Int).toNat [] = encF L) (es : (l.map encSec).getD (f : Int).toNat [] = encSec s) (hLl : L.length ≤ 100) (hs : okSec s) (hs1 : (shd s).length = L.length) (hs2 : (slv s).length = L.length) (acc : Bool) :
    W Tryd.prog G0 0 (.loop (lp Tryd.f15 3)) (fun e s' => e = .exit 6 ∧ s' = ⟨rbS l g [(8, .i (.sl (T.map encJ))), (10, .i (.int .i64 k)), (11, .i (.bool (acc && okN j g s 0 L))), (12, .i (.int .i64 f))], rbT p⟩)
      ⟨rbS l g [(8, .i (.sl (T.map encJ))), (10, .i (.int .i64 k)), (11, .i (.bool acc)), (12, .i (.int .i64 f)), (13, .i (.int .i64 0))], rbT p⟩ := by
  obtain ⟨R, hR⟩ : ∃ R, R = (acc && okN j g s 0 L) := ⟨_, rfl⟩
  rw [← hR]
  refine W.weak (loop_ok (α := Nat × Bool) (fun x => ⟨rbS l g [(8, .i (.sl (T.map encJ))), (10, .i (.int .i64 k)), (11, .i (.bool x.2)), (12, .i (.int .i64 f)), (13, .i (.int .i64 x.1))], rbT p⟩)
    (fun x => x.1 ≤ L.length ∧ (x.2 && okN j g s x.1 (L.drop x.1)) = R) (fun x => L.length - x.1) (0, acc) ⟨Nat.zero_le _, hR.symm⟩ (Le.refl _ _) (fun x hx => wpx_ok (own := own0) _ _ _ ?_))
  obtain ⟨i, a⟩ := x
  obtain ⟨h3, h4⟩ := hx
  simp only at h3 h4
  dsimp only
  repeat ((conv => whnf); first | refine Br.t ?_ | refine Br.f ?_ | refine ⟨rfl, ?_⟩)
  conv => whnf
  rw [eL]
  refine ⟨⟨by omega, by simp; omega, rfl⟩, ?_⟩
  repeat ((conv => whnf); first | refine Br.t ?_ | refine Br.f ?_ | refine ⟨rfl, ?_⟩)
  conv => whnf
  refine Br.mk (fun g1 => ?_) (fun g1 => ?_)
  · have g1 : i < L.length := by simpa using g1
    obtain ⟨y, hy⟩ : ∃ y, y = L[i] := ⟨_, rfl⟩
    have ey : (L.map encNd).getD (i : Int).toNat [] = encNd y := by rw [hy]; exact getD_enc g1
    have eyd : L.drop i = y :: L.drop (i + 1) := by rw [hy]; exact List.drop_eq_getElem_cons g1
    rw [eyd, okN] at h4
    obtain ⟨hd, hhd⟩ : ∃ hd, hd = (shd s).getD i 0 := ⟨_, rfl⟩
    obtain ⟨lv, hlv⟩ : ∃ lv, lv = (slv s).getD i 0 := ⟨_, rfl⟩
    have hhl : hd < 4294967296 := by
      rw [hhd, List.getD_eq_getElem?_getD, List.getElem?_eq_getElem (by omega)]
      exact hs.1.2 _ (List.getElem_mem _)
    have eh : ((shd s).map el32).getD (i : Int).toNat [] = el32 hd := by
      rw [Int.toNat_natCast, hhd]
      simp [List.getD_eq_getElem?_getD, show i < (shd s).length by omega, el32]
    have el : ((slv s).map el32).getD (i : Int).toNat [] = el32 lv := by
      rw [Int.toNat_natCast, hlv]
      simp [List.getD_eq_getElem?_getD, show i < (slv s).length by omega, el32]
    rw [← hhd, ← hlv] at h4
    repeat ((conv => whnf); first | refine Br.t ?_ | refine Br.f ?_ | refine ⟨rfl, ?_⟩)
    conv => whnf
    rw [eL]
    refine ⟨⟨by omega, by simp; omega, rfl⟩, ?_⟩
    repeat ((conv => whnf); first | refine Br.t ?_ | refine Br.f ?_ | refine ⟨rfl, ?_⟩)
    conv => whnf
    rw [ey]
    refine ⟨⟨by omega, by simp; omega, rfl⟩, ?_⟩
    repeat ((conv => whnf); first | refine Br.t ?_ | refine Br.f ?_ | refine ⟨rfl, ?_⟩)
    conv => whnf
    refine Br.mk (fun k1 => ?_) (fun k1 => ?_)
    · have k1 : y.1 = 1 := by simpa using k1
      repeat ((conv => whnf); first | refine Br.t ?_ | refine Br.f ?_ | refine ⟨rfl, ?_⟩)
      conv => whnf
      refine Br.mk (fun k2 => ?_) (fun k2 => ?_)
      · have k2 : y.2.1 = g := by simpa using k2
        rw [if_pos ⟨.inl k1, k2⟩] at h4
        cases a with
        | false =>
          refine draw_ok (own := own0) [] [] [] rfl (by kernel_rfl) (Nat.zero_le _) ?_
          repeat ((conv => whnf); first | refine Br.t ?_ | refine Br.f ?_ | refine ⟨rfl, ?_⟩)
          conv => whnf
          refine ⟨by repeat ((conv => whnf); first | exact trivial | refine ⟨rfl, ?_⟩), trivial, ?_⟩
          conv => whnf
          repeat ((conv => whnf); first | refine Br.t ?_ | refine Br.f ?_ | refine ⟨rfl, ?_⟩)
          conv => whnf
          refine ⟨(i + 1, false), ⟨by simp only; omega, by simpa using h4⟩, by simp only; omega, Le.back (fun _ => 0) (by intro id hid; rfl) (by simp [rbT]) rfl ?_ ?_ ?_⟩
          · exact rbT_cl p
          · simp [leS, mkS, rbS, V.up]
            exact i64_id (by omega) (by omega)
          · rfl
        | true =>
          obtain ⟨q, hq⟩ : ∃ q, q = holdsB j (y.1 == 2) hd lv := ⟨_, rfl⟩
          have cm := holdsR j (y.1 == 2) hd lv hhl hj
          rw [← hq] at cm
          refine draw_ok (own := own0) [] [] [(.i (.bool q), [pgB p, jB (0, 0), .row 0 4 false [(encNd y).map .i]])] rfl (by kernel_rfl) (Nat.zero_le _) ?_
          repeat ((conv => whnf); first | refine Br.t ?_ | refine Br.f ?_ | refine ⟨rfl, ?_⟩)
          conv => whnf
          rw [ej]
          refine ⟨⟨by omega, by simp; omega, rfl⟩, ?_⟩
          repeat ((conv => whnf); first | refine Br.t ?_ | refine Br.f ?_ | refine ⟨rfl, ?_⟩)
          conv => whnf
          rw [es]
          refine ⟨⟨by omega, by simp; omega, rfl⟩, ?_⟩
          repeat ((conv => whnf); first | refine Br.t ?_ | refine Br.f ?_ | refine ⟨rfl, ?_⟩)
          conv => whnf
          rw [eh]
          refine ⟨⟨by omega, by simp; omega, rfl⟩, ?_⟩
          repeat ((conv => whnf); first | refine Br.t ?_ | refine Br.f ?_ | refine ⟨rfl, ?_⟩)
          conv => whnf
          rw [es]
          refine ⟨⟨by omega, by simp; omega, rfl⟩, ?_⟩
          repeat ((conv => whnf); first | refine Br.t ?_ | refine Br.f ?_ | refine ⟨rfl, ?_⟩)
          conv => whnf
          rw [el]
          refine ⟨⟨by omega, by simp; omega, rfl⟩, ?_⟩
          repeat ((conv => whnf); first | refine Br.t ?_ | refine Br.f ?_ | refine ⟨rfl, ?_⟩)
          conv => whnf
          refine ⟨cm.pure _ rfl rfl, ?_⟩
          repeat ((conv => whnf); first | refine Br.t ?_ | refine Br.f ?_ | refine ⟨rfl, ?_⟩)
          conv => whnf
          refine ⟨by repeat ((conv => whnf); first | exact trivial | refine ⟨rfl, ?_⟩), trivial, ?_⟩
          conv => whnf
          repeat ((conv => whnf); first | refine Br.t ?_ | refine Br.f ?_ | refine ⟨rfl, ?_⟩)
          conv => whnf
          refine ⟨(i + 1, q), ⟨by simp only; omega, by rw [← h4, hq]; simp [Bool.and_assoc]; rfl⟩, by simp only; omega, Le.back (fun _ => 0) (by intro id hid; rfl) (by simp [rbT]) rfl ?_ ?_ ?_⟩
          · exact rbT_cl p
          · simp [leS, mkS, rbS, V.up]
            exact i64_id (by omega) (by omega)
          · rfl
      · have k2 : ¬ y.2.1 = g := by simpa using k2
        rw [if_neg (fun h => k2 h.2), Bool.true_and] at h4
        repeat ((conv => whnf); first | refine Br.t ?_ | refine Br.f ?_ | refine ⟨rfl, ?_⟩)
        conv => whnf
        refine ⟨(i + 1, a), ⟨by simp only; omega, h4⟩, by simp only; omega, Le.back (fun _ => 0) (by intro id hid; rfl) (by simp [rbT]) rfl ?_ ?_ ?_⟩
        · exact rbT_cl p
        · simp [leS, mkS, rbS, V.up]
          exact i64_id (by omega) (by omega)
        · rfl
    · have k1 : ¬ y.1 = 1 := by simpa using k1
      repeat ((conv => whnf); first | refine Br.t ?_ | refine Br.f ?_ | refine ⟨rfl, ?_⟩)
      conv => whnf
      refine Br.mk (fun k3 => ?_) (fun k3 => ?_)
      · have k3 : y.1 = 2 := by simpa using k3
        repeat ((conv => whnf); first | refine Br.t ?_ | refine Br.f ?_ | refine ⟨rfl, ?_⟩)
        conv => whnf
        refine Br.mk (fun k2 => ?_) (fun k2 => ?_)
        · have k2 : y.2.1 = g := by simpa using k2
          rw [if_pos ⟨.inr k3, k2⟩] at h4
          cases a with
          | false =>
            refine draw_ok (own := own0) [] [] [] rfl (by kernel_rfl) (Nat.zero_le _) ?_
            repeat ((conv => whnf); first | refine Br.t ?_ | refine Br.f ?_ | refine ⟨rfl, ?_⟩)
            conv => whnf
            refine ⟨by repeat ((conv => whnf); first | exact trivial | refine ⟨rfl, ?_⟩), trivial, ?_⟩
            conv => whnf
            repeat ((conv => whnf); first | refine Br.t ?_ | refine Br.f ?_ | refine ⟨rfl, ?_⟩)
            conv => whnf
            refine ⟨(i + 1, false), ⟨by simp only; omega, by simpa using h4⟩, by simp only; omega, Le.back (fun _ => 0) (by intro id hid; rfl) (by simp [rbT]) rfl ?_ ?_ ?_⟩
            · exact rbT_cl p
            · simp [leS, mkS, rbS, V.up]
              exact i64_id (by omega) (by omega)
            · rfl
          | true =>
            obtain ⟨q, hq⟩ : ∃ q, q = holdsB j (y.1 == 2) hd lv := ⟨_, rfl⟩
            have cm := holdsR j (y.1 == 2) hd lv hhl hj
            rw [← hq] at cm
            refine draw_ok (own := own0) [] [] [(.i (.bool q), [pgB p, jB (0, 0), .row 0 4 false [(encNd y).map .i]])] rfl (by kernel_rfl) (Nat.zero_le _) ?_
            repeat ((conv => whnf); first | refine Br.t ?_ | refine Br.f ?_ | refine ⟨rfl, ?_⟩)
            conv => whnf
            rw [ej]
            refine ⟨⟨by omega, by simp; omega, rfl⟩, ?_⟩
            repeat ((conv => whnf); first | refine Br.t ?_ | refine Br.f ?_ | refine ⟨rfl, ?_⟩)
            conv => whnf
            rw [es]
            refine ⟨⟨by omega, by simp; omega, rfl⟩, ?_⟩
            repeat ((conv => whnf); first | refine Br.t ?_ | refine Br.f ?_ | refine ⟨rfl, ?_⟩)
            conv => whnf
            rw [eh]
            refine ⟨⟨by omega, by simp; omega, rfl⟩, ?_⟩
            repeat ((conv => whnf); first | refine Br.t ?_ | refine Br.f ?_ | refine ⟨rfl, ?_⟩)
            conv => whnf
            rw [es]
            refine ⟨⟨by omega, by simp; omega, rfl⟩, ?_⟩
            repeat ((conv => whnf); first | refine Br.t ?_ | refine Br.f ?_ | refine ⟨rfl, ?_⟩)
            conv => whnf
            rw [el]
            refine ⟨⟨by omega, by simp; omega, rfl⟩, ?_⟩
            repeat ((conv => whnf); first | refine Br.t ?_ | refine Br.f ?_ | refine ⟨rfl, ?_⟩)
            conv => whnf
            refine ⟨cm.pure _ rfl rfl, ?_⟩
            repeat ((conv => whnf); first | refine Br.t ?_ | refine Br.f ?_ | refine ⟨rfl, ?_⟩)
            conv => whnf
            refine ⟨by repeat ((conv => whnf); first | exact trivial | refine ⟨rfl, ?_⟩), trivial, ?_⟩
            conv => whnf
            repeat ((conv => whnf); first | refine Br.t ?_ | refine Br.f ?_ | refine ⟨rfl, ?_⟩)
            conv => whnf
            refine ⟨(i + 1, q), ⟨by simp only; omega, by rw [← h4, hq]; simp [Bool.and_assoc]; rfl⟩, by simp only; omega, Le.back (fun _ => 0) (by intro id hid; rfl) (by simp [rbT]) rfl ?_ ?_ ?_⟩
            · exact rbT_cl p
            · simp [leS, mkS, rbS, V.up]
              exact i64_id (by omega) (by omega)
            · rfl
        · have k2 : ¬ y.2.1 = g := by simpa using k2
          rw [if_neg (fun h => k2 h.2), Bool.true_and] at h4
          repeat ((conv => whnf); first | refine Br.t ?_ | refine Br.f ?_ | refine ⟨rfl, ?_⟩)
          conv => whnf
          refine ⟨(i + 1, a), ⟨by simp only; omega, h4⟩, by simp only; omega, Le.back (fun _ => 0) (by intro id hid; rfl) (by simp [rbT]) rfl ?_ ?_ ?_⟩
          · exact rbT_cl p
          · simp [leS, mkS, rbS, V.up]
            exact i64_id (by omega) (by omega)
          · rfl
      · have k3 : ¬ y.1 = 2 := by simpa using k3
        rw [if_neg (fun h => h.1.elim k1 k3), Bool.true_and] at h4
        repeat ((conv => whnf); first | refine Br.t ?_ | refine Br.f ?_ | refine ⟨rfl, ?_⟩)
        conv => whnf
        refine ⟨(i + 1, a), ⟨by simp only; omega, h4⟩, by simp only; omega, Le.back (fun _ => 0) (by intro id hid; rfl) (by simp [rbT]) rfl ?_ ?_ ?_⟩
        · exact rbT_cl p
        · simp [leS, mkS, rbS, V.up]
          exact i64_id (by omega) (by omega)
        · rfl
  · have g1 : i = L.length := by simp at g1; omega
    subst g1
    rw [List.drop_length, okN, Bool.and_true] at h4
    subst h4
    repeat ((conv => whnf); first | refine Br.t ?_ | refine Br.f ?_ | refine ⟨rfl, ?_⟩)
    conv => whnf
    exact ⟨_, Le.slots (by simp [leS, mkS, rbS]), rfl, rfl⟩
/-- all functions' turn -/
theorem rb_fn (p : Pg) (l : List Sec) (g : Int) (T : List Jst) (k : Nat) (j : Jst) (hk : k < T.length) (ej : (T.map encJ).getD (k : Int).toNat [] = encJ j) (hT : T.length ≤ 100) (hj : j.1 = 2 → 0 ≤ j.2 ∧ j.2 < 32) (hfl : p.fs.length ≤ 40) (hll : l.length = p.fs.length)
    (hw : ∀ f ∈ p.fs, f.length ≤ 100) (hs : ∀ s ∈ l, okSec s) (hsh : ∀ (f : Nat) (s : Sec) (L : List Nd), l[f]? = some s → p.fs[f]? = some L → (shd s).length = L.length ∧ (slv s).length = L.length) :
    W Tryd.prog G0 0 (.loop (lp Tryd.f15 2)) (fun e s' => e = .exit 4 ∧ s' = ⟨rbS l g [(8, .i (.sl (T.map encJ))), (10, .i (.int .i64 k)), (11, .i (.bool (okF j g p.fs l)))], rbT p⟩)
      ⟨rbS l g [(8, .i (.sl (T.map encJ))), (10, .i (.int .i64 k)), (11, .i (.bool true)), (12, .i (.int .i64 0))], rbT p⟩ := by
  obtain ⟨R, hR⟩ : ∃ R, R = okF j g p.fs l := ⟨_, rfl⟩
  rw [← hR]
  refine W.weak (loop_ok (α := Nat × Bool) (fun x => ⟨rbS l g [(8, .i (.sl (T.map encJ))), (10, .i (.int .i64 k)), (11, .i (.bool x.2)), (12, .i (.int .i64 x.1))], rbT p⟩)
    (fun x => x.1 ≤ p.fs.length ∧ (x.2 && okF j g (p.fs.drop x.1) (l.drop x.1)) = R) (fun x => p.fs.length - x.1) (0, true) ⟨Nat.zero_le _, by rw [hR]; rfl⟩ (Le.refl _ _) (fun x hx => wpx_ok (own := own0) _ _ _ ?_))
  obtain ⟨f, a⟩ := x
  obtain ⟨h3, h4⟩ := hx
  simp only at h3 h4
  dsimp only
  repeat ((conv => whnf); first | refine Br.t ?_ | refine Br.f ?_ | refine ⟨rfl, ?_⟩)
  conv => whnf
  refine Br.mk (fun g1 => ?_) (fun g1 => ?_)
  · have g1 : f < p.fs.length := by simpa using g1
    obtain ⟨L, hL⟩ : ∃ L, L = p.fs[f] := ⟨_, rfl⟩
    have hLm : L ∈ p.fs := hL ▸ List.getElem_mem _
    have eL : (p.fs.map encF).getD (f : Int).toNat [] = encF L := by rw [hL]; exact getD_enc (by omega)
    have edr : p.fs.drop f = L :: p.fs.drop (f + 1) := by rw [hL]; exact List.drop_eq_getElem_cons (by omega)
    obtain ⟨s, hse⟩ : ∃ s, s = l[f]'(by omega) := ⟨_, rfl⟩
    have hsm : s ∈ l := hse ▸ List.getElem_mem _
    have es : (l.map encSec).getD (f : Int).toNat [] = encSec s := by rw [hse]; exact getD_enc (by omega)
    have eds : l.drop f = s :: l.drop (f + 1) := by rw [hse]; exact List.drop_eq_getElem_cons (by omega)
    obtain ⟨a1, a2⟩ := hsh f s L (by rw [hse]; exact List.getElem?_eq_getElem _) (by rw [hL]; exact List.getElem?_eq_getElem _)
    rw [edr, eds, okF] at h4
    repeat ((conv => whnf); first | refine Br.t ?_ | refine Br.f ?_ | refine ⟨rfl, ?_⟩)
    conv => whnf
    refine W.le (Le.slots (sl' := rbS l g [(8, .i (.sl (T.map encJ))), (10, .i (.int .i64 k)), (11, .i (.bool a)), (12, .i (.int .i64 f)), (13, .i (.int .i64 0))]) (by simp [leS, mkS, rbS])) (W.mono (rb_node p l g T k j hk ej hT hj f L s g1 hfl (by omega) (by omega) eL es (hw L hLm) (hs s hsm) a1 a2 a) ?_)
    rintro e s' ⟨rfl, rfl⟩
    repeat ((conv => whnf); first | refine Br.t ?_ | refine Br.f ?_ | refine ⟨rfl, ?_⟩)
    conv => whnf
    refine ⟨(f + 1, a && okN j g s 0 L), ⟨by simp only; omega, by rw [← h4]; simp [Bool.and_assoc]⟩, by simp only; omega, Le.slots ?_⟩
    simp [leS, mkS, rbS]
    exact i64_id (by omega) (by omega)
  · have g1 : f = p.fs.length := by simp at g1; omega
    subst g1
    rw [List.drop_length, okF, Bool.and_true] at h4
    · subst h4
      repeat ((conv => whnf); first | refine Br.t ?_ | refine Br.f ?_ | refine ⟨rfl, ?_⟩)
      conv => whnf
      exact ⟨_, Le.slots (by simp [leS, mkS, rbS]), rfl, rfl⟩
    · intros; simp_all
def bestR (p : Pg) (l : List Sec) (g : Int) (n : Nat) : Jst × Int := match (tryL n).find? fun j => okF j g p.fs l with
  | some j => (j, 1)
  | none => ((0, 0), 0)
theorem rb_all (p : Pg) (l : List Sec) (g : Int) (n : Nat) (hn32 : n ≤ 32) (hfl : p.fs.length ≤ 40) (hll : l.length = p.fs.length)
    (hw : ∀ f ∈ p.fs, f.length ≤ 100) (hs : ∀ s ∈ l, okSec s) (hsh : ∀ (f : Nat) (s : Sec) (L : List Nd), l[f]? = some s → p.fs[f]? = some L → (shd s).length = L.length ∧ (slv s).length = L.length) (Q : Exit → S → Prop)
    (hyes : ∀ j, (tryL n).find? (fun j => okF j g p.fs l) = some j → Q .ret ⟨(rbS l g []).set 7 (.i (.int .i64 1)), [pgB p, jB j]⟩)
    (hno : (tryL n).find? (fun j => okF j g p.fs l) = none → Q (.exit 2) ⟨rbS l g [], rbT p⟩) :
    W Tryd.prog G0 0 (.loop (lp Tryd.f15 1)) Q ⟨rbS l g [(8, .i (.sl ((tryL n).map encJ))), (10, .i (.int .i64 0))], rbT p⟩ := by
  obtain ⟨T, hT⟩ : ∃ T, T = tryL n := ⟨_, rfl⟩
  have hTl : T.length = n + 2 := by rw [hT, tryL_len]
  have hTj : ∀ j ∈ T, j.1 = 2 → 0 ≤ j.2 ∧ j.2 < 32 := by
    intro j hj h2
    rw [hT] at hj
    have := tryL_lock hj h2
    omega
  rw [← hT] at hyes hno ⊢
  refine W.weak (loop_ok (α := Nat) (fun k => ⟨rbS l g [(8, .i (.sl (T.map encJ))), (10, .i (.int .i64 k))], rbT p⟩)
    (fun k => k ≤ T.length ∧ (T.drop k).find? (fun j => okF j g p.fs l) = T.find? (fun j => okF j g p.fs l)) (fun k => T.length - k) 0 ⟨Nat.zero_le _, rfl⟩ (Le.refl _ _) (fun k hk => wpx_ok (own := own0) _ _ _ ?_))
  obtain ⟨h3, h4⟩ := hk
  repeat ((conv => whnf); first | refine Br.t ?_ | refine Br.f ?_ | refine ⟨rfl, ?_⟩)
  conv => whnf
  refine Br.mk (fun g1 => ?_) (fun g1 => ?_)
  · have g1 : k < T.length := by simpa using g1
    obtain ⟨j, hj⟩ : ∃ j, j = T[k] := ⟨_, rfl⟩
    have hjm : j ∈ T := hj ▸ List.getElem_mem _
    have ej : (T.map encJ).getD (k : Int).toNat [] = encJ j := by rw [hj]; exact getD_enc g1
    have edj : T.drop k = j :: T.drop (k + 1) := by rw [hj]; exact List.drop_eq_getElem_cons g1
    rw [edj, List.find?_cons] at h4
    repeat ((conv => whnf); first | refine Br.t ?_ | refine Br.f ?_ | refine ⟨rfl, ?_⟩)
    conv => whnf
    refine W.le (Le.slots (sl' := rbS l g [(8, .i (.sl (T.map encJ))), (10, .i (.int .i64 k)), (11, .i (.bool true)), (12, .i (.int .i64 0))]) (by simp [leS, mkS, rbS])) (W.mono (rb_fn p l g T k j g1 ej (by omega) (hTj j hjm) hfl hll hw hs hsh) ?_)
    rintro e s' ⟨rfl, rfl⟩
    obtain ⟨q, hq⟩ : ∃ q, q = okF j g p.fs l := ⟨_, rfl⟩
    rw [← hq] at h4 ⊢
    cases q with
    | true =>
      repeat ((conv => whnf); first | refine Br.t ?_ | refine Br.f ?_ | refine ⟨rfl, ?_⟩)
      conv => whnf
      rw [ej]
      refine ⟨⟨by omega, by simp; omega, rfl⟩, ?_⟩
      repeat ((conv => whnf); first | refine Br.t ?_ | refine Br.f ?_ | refine ⟨rfl, ?_⟩)
      conv => whnf
      exact ⟨_, Le.slots (by simp [leS, mkS, rbS]), hyes j h4.symm⟩
    | false =>
      repeat ((conv => whnf); first | refine Br.t ?_ | refine Br.f ?_ | refine ⟨rfl, ?_⟩)
      conv => whnf
      refine ⟨k + 1, ⟨by omega, h4⟩, by omega, Le.slots ?_⟩
      simp [leS, mkS, rbS]
      exact i64_id (by omega) (by omega)
  · have g1 : k = T.length := by simp at g1; omega
    subst g1
    rw [List.drop_length, List.find?_nil] at h4
    repeat ((conv => whnf); first | refine Br.t ?_ | refine Br.f ?_ | refine ⟨rfl, ?_⟩)
    conv => whnf
    exact ⟨_, Le.slots (by simp [leS, mkS, rbS]), hno h4.symm⟩
theorem refbest (p : Pg) (l : List Sec) (g : Int) (n : Nat) (hn : p.l = n) (hn32 : n ≤ 32) (hfl : p.fs.length ≤ 40) (hll : l.length = p.fs.length)
    (hw : ∀ f ∈ p.fs, f.length ≤ 100) (hs : ∀ s ∈ l, okSec s) (hsh : ∀ (f : Nat) (s : Sec) (L : List Nd), l[f]? = some s → p.fs[f]? = some L → (shd s).length = L.length ∧ (slv s).length = L.length) :
    CallW Tryd.prog G0 15 [pgV p, .i (.sl (l.map encSec)), .i (.int .i64 g)] [] (fun r st' => r = .tup [jV (bestR p l g n).1, .i (.int .i64 (bestR p l g n).2)] ∧ st' = []) := by
  refine call_of_bodyF 0 (Nat.le_refl _) Tryd.func15 rfl (fun a w => Tryd.call15 a w) (wpx_ok (own := fun t => t == 17) _ _ _ ?_)
  repeat ((conv => whnf); first | refine Br.t ?_ | refine Br.f ?_ | refine ⟨rfl, ?_⟩)
  conv => whnf
  refine W.le (Le.slots (sl' := rbS l g [(8, .ref 2 1 0 2), (9, .i (.int .i64 0))]) (by simp [leS, mkS, rbS])) (W.mono (rb_try p l g n hn hn32) ?_)
  rintro e s' ⟨rfl, rfl⟩
  repeat ((conv => whnf); first | refine Br.t ?_ | refine Br.f ?_ | refine ⟨rfl, ?_⟩)
  conv => whnf
  refine W.le (Le.slots (sl' := rbS l g [(8, .i (.sl ((tryL n).map encJ))), (10, .i (.int .i64 0))]) (by simp [leS, mkS, rbS])) (rb_all p l g n hn32 hfl hll hw hs hsh _ (fun j hj => ?_) (fun hj => ?_))
  · unfold bestR
    rw [hj]
    repeat ((conv => whnf); first | refine Br.t ?_ | refine Br.f ?_ | refine ⟨rfl, ?_⟩)
    conv => whnf
    refine fin (target := []) rfl (Nat.zero_le _) (by simp) rfl rfl
  · unfold bestR
    rw [hj]
    repeat ((conv => whnf); first | refine Br.t ?_ | refine Br.f ?_ | refine ⟨rfl, ?_⟩)
    conv => whnf
    refine fin (target := []) rfl (Nat.zero_le _) (by simp) rfl rfl
end Go.Proofs.YtpbbkfekibmaiaaDoor.Am
