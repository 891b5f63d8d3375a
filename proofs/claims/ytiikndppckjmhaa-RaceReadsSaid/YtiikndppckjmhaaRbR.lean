/- Contract: a program that writes nothing has no race. -/
import Derived.Test.YtiikndppckjmhaaRbP
import Derived.Test.YtiikndppckjmhaaSmD
namespace Go.Proofs.Ytiikndppckjmhaa.Am
set_option autoImplicit false
set_option linter.unusedVariables false
set_option linter.unusedSimpArgs false
set_option maxRecDepth 10000
set_option pp.maxSteps 3000
set_option pp.proofs false
def qN (n : Nd) : Nd := if n.1 = 2 then (1, n.2) else n
/-- the program that reads where that one writes -/
def qP (p : Pg) : Pg := ⟨p.g, p.l, p.s, p.fs.map fun L => L.map qN⟩
theorem qN_ne (n : Nd) : (qN n).1 ≠ 2 := by
  unfold qN
  split
  · simp
  · rename_i h; exact h
theorem qP_okPg {p : Pg} (h : okPg p) : okPg (qP p) := by
  refine ⟨by simp [qP]; exact h.1, fun f hf => ?_⟩
  simp only [qP, List.mem_map] at hf
  obtain ⟨L, hL, rfl⟩ := hf
  rw [List.length_map]
  exact h.2 L hL
theorem qP_none {p : Pg} (hq : PgOk (qP p)) {c : Cfg} (hc : OkC (qP p) c) : firstR (touches (qP p) c) = none := by
  refine firstR_of_none fun x hx y hy => ?_
  have hw : ∀ z ∈ touches (qP p) c, z.2.2 = false := fun z hz => by
    obtain ⟨h1, h2, h3⟩ := first_in_range hz
    rw [h3]
    unfold tcOf
    simp only
    refine decide_eq_false fun he => ?_
    have hl : lives c (z.1 : Int) = true := by unfold isAcc at h2; simp only [Bool.and_eq_true] at h2; exact h2.1
    obtain ⟨a, th, f, L, e1, hth, hs0, hf1, hL, hy, hLm, hym, hmay⟩ := nd_in hq hc hl
    have e2 : atN (qP p) c (z.1 : Int) = ndAt (qP p) c (z.1 : Int) := by unfold atN; rw [if_pos hl]
    rw [e2] at he
    simp only [qP, List.mem_map] at hLm
    obtain ⟨L0, _, rfl⟩ := hLm
    obtain ⟨n, _, hn⟩ := List.mem_map.1 hym
    rw [← hn] at he
    exact qN_ne n he
  cases h : agB x y with
  | false => rfl
  | true =>
    have := (agB_iff.1 h).2.2
    rw [hw x hx, hw y hy] at this
    simp at this
theorem touchesZ (p : Pg) : CallW Try.prog G0 47 [pgV p, cfgV cfgZ] [] (fun r st' => r = .i (.sl []) ∧ st' = []) := by
  refine call_of_bodyF 0 (Nat.le_refl _) Try.func47 rfl (fun a w => Try.call47 a w) (wpx_ok (own := own0) _ _ _ ?_)
  repeat ((conv => whnf); first | refine Br.t ?_ | refine Br.f ?_ | refine ⟨rfl, ?_⟩)
  conv => whnf
  refine loop_ok (α := Unit) (fun _ => ⟨tcS cfgZ [] 0, [pgB p, cfgB cfgZ, tcR []]⟩)
    (fun _ => True) (fun _ => 0) () trivial ((Le.nil (n := 0) 5 3 rfl).trans (Le.slots (by simp [leS, mkS, tcS]))) (fun _ _ => wpx_ok (own := own0) _ _ _ ?_)
  repeat ((conv => whnf); first | refine Br.t ?_ | refine Br.f ?_ | refine ⟨rfl, ?_⟩)
  conv => whnf
  refine ⟨Nat.zero_le _, rfl, [], rfl, ?_⟩
  refine fin (target := []) rfl (Nat.zero_le _) (by simp) rfl rfl
theorem firstZ (p : Pg) : CallW Try.prog G0 44 [pgV p, cfgV cfgZ] [] (fun r st' => r = .tup (firstT none) ∧ st' = []) := by
  refine call_of_bodyF 0 (Nat.le_refl _) Try.func44 rfl (fun a w => Try.call44 a w) (wpx_ok (own := own0) _ _ _ ?_)
  repeat ((conv => whnf); first | refine Br.t ?_ | refine Br.f ?_ | refine ⟨rfl, ?_⟩)
  conv => whnf
  refine CallW.mono ((touchesZ p).pure _ rfl rfl) ?_
  rintro r st' ⟨rfl, rfl⟩
  repeat ((conv => whnf); first | refine Br.t ?_ | refine Br.f ?_ | refine ⟨rfl, ?_⟩)
  conv => whnf
  refine loop_ok (α := Unit) (fun _ => ⟨fsS [] 0 [], [pgB p, cfgB cfgZ]⟩)
    (fun _ => True) (fun _ => 0) () trivial (Le.slots (by simp [leS, mkS, fsS])) (fun _ _ => wpx_ok (own := own0) _ _ _ ?_)
  repeat ((conv => whnf); first | refine Br.t ?_ | refine Br.f ?_ | refine ⟨rfl, ?_⟩)
  conv => whnf
  refine fin (target := []) rfl (Nat.zero_le _) (by simp) rfl rfl
def rqS (l : List (Int × Bool)) (f : Nat) (x : List (Nat × V)) : List V := mkS 123 ([(1, .i (.sl (l.map encP))), (2, .ptr 0 0 0 0), (5, .ptr 1 0 0 0), (6, .i (.int .i64 f))] ++ x)
def rqB (p : Pg) (f : Nat) : List Ob := [pgB p, .row 0 4 false [[.i (.int .i64 p.g), .i (.int .i64 p.l), .i (.int .i64 p.s), .ref 2 1 0 f]], .row 1 1 false (lift ((p.fs.take f).map fun L => encF (L.map qN)))]
theorem rqB_cl (p : Pg) (f m : Nat) (hm : 2 < m) : ∀ o ∈ rqB p f, o.cl m := by
  intro o ho
  simp only [rqB, List.mem_cons, List.not_mem_nil, or_false] at ho
  rcases ho with rfl | rfl | rfl
  · exact pgB_cl p m
  · intro cs hcs; simp only [List.mem_singleton] at hcs; subst hcs; simp [V.cl, V.cl.clAll]; omega
  · exact row_cl 1 1 _ _ _ (List.mem_singleton.2 rfl)
def ndR (L : List Nd) : Ob := .row 1 4 false (lift (L.map encNd))
theorem rqI_cl (p : Pg) (f : Nat) (L : List Nd) (m : Nat) (hm : 2 < m) : ∀ o ∈ rqB p f ++ [ndR L], o.cl m := by
  intro o ho
  rcases List.mem_append.1 ho with h | h
  · exact rqB_cl p f m hm o h
  · simp only [List.mem_singleton] at h; subst h; exact row_cl 1 4 _ _ _ (List.mem_singleton.2 rfl)
theorem encNd4 (n : Nd) : encNd n = [.int .i64 n.1, .int .i64 n.2.1, .int .i64 n.2.2.1, .int .i64 n.2.2.2] := rfl
set_option maxHeartbeats 2000000 in
theorem rq_in (p : Pg) (l : List (Int × Bool)) (f : Nat) (L : List Nd) (hL : p.fs[f]? = some L) (hf : p.fs.length ≤ 40) (hl : L.length ≤ 100) :
    W Try.prog G0 0 (.loop (lp Try.f6 1)) (fun e s' => e = .exit 2 ∧ s' = ⟨rqS l f [(7, .i (.sl ((L.map qN).map encNd)))], rqB p f⟩) ⟨rqS l f [(7, .ref 3 1 0 0), (8, .i (.int .i64 (0 : Nat)))], rqB p f ++ [ndR []]⟩ := by
  refine W.weak (loop_ok (α := Nat) (fun j => ⟨rqS l f [(7, .ref 3 1 0 ((L.take j).map qN).length), (8, .i (.int .i64 (j : Nat)))], rqB p f ++ [ndR ((L.take j).map qN)]⟩)
    (fun j => j ≤ L.length) (fun j => L.length - j) 0 (Nat.zero_le _) (Le.refl _ _) (fun j hj => wpx_ok (own := own0) _ _ _ ?_))
  have eL : (p.fs.map encF).getD (f : Int).toNat [] = encF L := by rw [Int.toNat_natCast]; simp [List.getD_eq_getElem?_getD, hL]
  have hfl := lt_some hL
  have hlen : ((L.take j).map qN).length = j := by simp; omega
  have hfull : j = L.length → (L.take j).map qN = L.map qN := fun e => by rw [e, List.take_length]
  have hnx : ∀ g : j < L.length, (L.take (j + 1)).map qN = (L.take j).map qN ++ [qN L[j]] := fun g => by
    rw [List.take_add_one, List.getElem?_eq_getElem g, List.map_append]; rfl
  obtain ⟨A, hA⟩ : ∃ A, A = (L.take j).map qN := ⟨_, rfl⟩
  rw [← hA] at hlen hfull hnx ⊢
  repeat ((conv => whnf); first | refine Br.t ?_ | refine Br.f ?_ | refine ⟨rfl, ?_⟩)
  conv => whnf
  rw [eL]
  refine ⟨⟨by omega, by simp; omega, rfl⟩, ?_⟩
  repeat ((conv => whnf); first | refine Br.t ?_ | refine Br.f ?_ | refine ⟨rfl, ?_⟩)
  conv => whnf
  refine Br.mk (fun g => ?_) (fun g => ?_)
  · have g : j < L.length := by simpa using g
    have hnx := hnx g
    obtain ⟨n, hn⟩ : ∃ n, n = L[j] := ⟨_, rfl⟩
    have en : (L.map encNd).getD (j : Int).toNat [] = encNd n := by rw [hn, Int.toNat_natCast]; simp [List.getD_eq_getElem?_getD, g]
    rw [← hn] at hnx
    repeat ((conv => whnf); first | refine Br.t ?_ | refine Br.f ?_ | refine ⟨rfl, ?_⟩)
    conv => whnf
    rw [eL]
    refine ⟨⟨by omega, by simp; omega, rfl⟩, ?_⟩
    repeat ((conv => whnf); first | refine Br.t ?_ | refine Br.f ?_ | refine ⟨rfl, ?_⟩)
    conv => whnf
    rw [en]
    refine ⟨⟨by omega, by simp; omega, rfl⟩, ?_⟩
    repeat ((conv => whnf); first | refine Br.t ?_ | refine Br.f ?_ | refine ⟨rfl, ?_⟩)
    conv => whnf
    refine Br.mk (fun h2 => ?_) (fun h2 => ?_)
    · have h2 : n.1 = 2 := by simpa using h2
      have hq : qN n = (1, n.2) := by unfold qN; rw [if_pos h2]
      rw [hq] at hnx
      repeat ((conv => whnf); first | refine Br.t ?_ | refine Br.f ?_ | refine ⟨rfl, ?_⟩)
      conv => whnf
      refine ⟨⟨by intro cs hcs; simp at hcs; subst hcs; rfl, by simp [lift], by show (A.length + 1) * 32 ≤ _; omega, len_mx (by show A.length + 1 ≤ _; omega)⟩, ?_⟩
      repeat ((conv => whnf); first | refine Br.t ?_ | refine Br.f ?_ | refine ⟨rfl, ?_⟩)
      conv => whnf
      refine ⟨j + 1, by omega, by omega, Le.back (fun id => if id = 3 then 1 else 0) (by intro id hid; omega) (by simp [rqB]) rfl (rqI_cl p f _ _ (by simp [rqB])) ?_ ?_⟩
      · rw [hnx]
        simp [leS, mkS, rqS, V.up, lift]
        exact i64_id (by omega) (by omega)
      · rw [hnx]
        simp only [rqB, ndR, List.cons_append, List.nil_append, upSt, Ob.up, map_up_lift, List.map_append, lift_app]
        rfl
    · have h2 : ¬ n.1 = 2 := by simpa using h2
      have hq : qN n = n := by unfold qN; rw [if_neg h2]
      rw [hq] at hnx
      repeat ((conv => whnf); first | refine Br.t ?_ | refine Br.f ?_ | refine ⟨rfl, ?_⟩)
      conv => whnf
      refine ⟨⟨by intro cs hcs; simp at hcs; subst hcs; rfl, by simp [lift], by show (A.length + 1) * 32 ≤ _; omega, len_mx (by show A.length + 1 ≤ _; omega)⟩, ?_⟩
      repeat ((conv => whnf); first | refine Br.t ?_ | refine Br.f ?_ | refine ⟨rfl, ?_⟩)
      conv => whnf
      refine ⟨j + 1, by omega, by omega, Le.back (fun id => if id = 3 then 1 else 0) (by intro id hid; omega) (by simp [rqB]) rfl (rqI_cl p f _ _ (by simp [rqB])) ?_ ?_⟩
      · rw [hnx]
        simp [leS, mkS, rqS, V.up, lift]
        exact i64_id (by omega) (by omega)
      · rw [hnx]
        simp only [rqB, ndR, List.cons_append, List.nil_append, upSt, Ob.up, map_up_lift, List.map_append, lift_app]
        rfl
  · have g : j = L.length := by simp at g; omega
    rw [← hfull g]
    repeat ((conv => whnf); first | refine Br.t ?_ | refine Br.f ?_ | refine ⟨rfl, ?_⟩)
    conv => whnf
    refine ⟨_, (Le.data 3 1 4 (A.map encNd) (s := ⟨rqS l f [(7, .i (.sl (A.map encNd)))], rqB p f ++ [.dead]⟩) rfl ?_ ?_).trans (Le.short (Nat.zero_le _) rfl (rqB_cl p f _ (by simp [rqB]))), rfl, rfl⟩
    · simp [leS, mkS, rqS, V.dat]
      exact List.take_of_length_le (by simp)
    · simp only [rqB, ndR, List.cons_append, List.nil_append, List.map_cons, List.map_nil, Ob.dat, dat_lift']
      rfl
set_option maxHeartbeats 2000000 in
theorem rq_out (p : Pg) (l : List (Int × Bool)) (hf : p.fs.length ≤ 40) (hl : ∀ L ∈ p.fs, L.length ≤ 100) :
    W Try.prog G0 0 (.loop (lp Try.f6 0)) (fun e s' => e = .exit 0 ∧ s' = ⟨mkS 123 [(1, .i (.sl (l.map encP))), (2, .ptr 0 0 0 0), (5, .ptr 1 0 0 0)], [pgB p, pgB (qP p)]⟩) ⟨rqS l 0 [], rqB p 0⟩ := by
  refine W.weak (loop_ok (α := Nat) (fun f => ⟨rqS l f [], rqB p f⟩)
    (fun f => f ≤ p.fs.length) (fun f => p.fs.length - f) 0 (Nat.zero_le _) (Le.refl _ _) (fun f hfl => wpx_ok (own := own0) _ _ _ ?_))
  have hlen : (p.fs.take f).length = f := by simp; omega
  repeat ((conv => whnf); first | refine Br.t ?_ | refine Br.f ?_ | refine ⟨rfl, ?_⟩)
  conv => whnf
  refine Br.mk (fun g => ?_) (fun g => ?_)
  · have g : f < p.fs.length := by simpa using g
    obtain ⟨L, hL⟩ : ∃ L, p.fs[f]? = some L := ⟨_, List.getElem?_eq_getElem g⟩
    have hi := rq_in p l f L hL hf (hl L (List.mem_of_getElem? hL))
    have et : p.fs.take (f + 1) = p.fs.take f ++ [L] := by rw [List.take_add_one, hL]; rfl
    repeat ((conv => whnf); first | refine Br.t ?_ | refine Br.f ?_ | refine ⟨rfl, ?_⟩)
    conv => whnf
    refine W.le ((Le.nil (n := 0) 7 4 rfl).trans (Le.slotsE (sl' := rqS l f [(7, .ref 3 1 0 0), (8, .i (.int .i64 (0 : Nat)))]) (st' := rqB p f ++ [ndR []]) (by simp [leS, mkS, rqS, rqB]) rfl)) (W.mono hi ?_)
    rintro e s' ⟨rfl, rfl⟩
    repeat ((conv => whnf); first | refine Br.t ?_ | refine Br.f ?_ | refine ⟨rfl, ?_⟩)
    conv => whnf
    refine ⟨⟨by intro cs hcs; simp at hcs; subst hcs; rfl, by simp [lift]; omega, by show (f + 1) * 24 ≤ _; omega, len_mx (by show f + 1 ≤ _; omega)⟩, ?_⟩
    repeat ((conv => whnf); first | refine Br.t ?_ | refine Br.f ?_ | refine ⟨rfl, ?_⟩)
    conv => whnf
    refine ⟨f + 1, by omega, by omega, Le.back (fun id => if id = 2 then 1 else 0) (by intro id hid; omega) (by simp [rqB]) rfl (rqB_cl p _ _ (by simp [rqB])) ?_ ?_⟩
    · simp [leS, mkS, rqS, V.up]
      exact i64_id (by omega) (by omega)
    · rw [rqB, et]
      simp only [upSt, Ob.up, map_up_lift, List.map_append, lift_app]
      rfl
  · have g : f = p.fs.length := by simp at g; omega
    subst g
    have e1 : p.fs.take p.fs.length = p.fs := List.take_length
    repeat ((conv => whnf); first | refine Br.t ?_ | refine Br.f ?_ | refine ⟨rfl, ?_⟩)
    conv => whnf
    refine ⟨_, (Le.data 2 1 1 (p.fs.map fun L => encF (L.map qN)) (s := ⟨mkS 123 [(1, .i (.sl (l.map encP))), (2, .ptr 0 0 0 0), (5, .ptr 1 0 0 0)], [pgB p, pgB (qP p)] ++ [.dead]⟩) (by rw [e1]; rfl) ?_ ?_).trans (Le.short (Nat.zero_le _) rfl (fun o ho => ?_)), rfl, rfl⟩
    · simp [leS, mkS, rqS, V.dat]
    · have e : V.dat 2 1 (p.fs.map fun L => encF (L.map qN)) (.ref 2 1 0 p.fs.length) = .i (.sl ((qP p).fs.map encF)) := by
        simp [V.dat, qP, Function.comp_def]
        exact List.take_of_length_le (by simp)
      show [pgB p, pgB (qP p), .dead] = [pgB p, .row 0 4 false [[.i (.int .i64 p.g), .i (.int .i64 p.l), .i (.int .i64 p.s), V.dat 2 1 (p.fs.map fun L => encF (L.map qN)) (.ref 2 1 0 p.fs.length)]], .dead]
      rw [e]
      rfl
    · simp only [List.mem_cons, List.not_mem_nil, or_false] at ho
      rcases ho with rfl | rfl
      · exact pgB_cl p _
      · exact pgB_cl _ _
set_option maxHeartbeats 4000000 in
theorem racereads (p : Pg) (hp0 : okPg p) (l : List (Int × Bool)) (hl : okL l) : CallW Try.prog G0 6 [pgV p, .i (.sl (l.map encP))] [] (fun r st' => r = .i (.bool true) ∧ st' = []) := by
  refine call_of_bodyF 0 (Nat.le_refl _) Try.func6 rfl (fun a w => Try.call6 a w) (wpx_ok (own := own0) _ _ _ ?_)
  unfold okL at hl
  repeat ((conv => whnf); first | refine Br.t ?_ | refine Br.f ?_ | refine ⟨rfl, ?_⟩)
  conv => whnf
  refine CallW.mono (raceawake.pure _ rfl rfl) ?_
  rintro r st' ⟨rfl, rfl⟩
  repeat ((conv => whnf); first | refine Br.t ?_ | refine Br.f ?_ | refine ⟨rfl, ?_⟩)
  conv => whnf
  refine CallW.mono ((small16 p hp0).pure _ rfl rfl) ?_
  rintro r st' ⟨rfl, rfl⟩
  repeat ((conv => whnf); first | refine Br.t ?_ | refine Br.f ?_ | refine ⟨rfl, ?_⟩)
  conv => whnf
  refine Br.mk (fun z => ?_) (fun z => ?_)
  · repeat ((conv => whnf); first | refine Br.t ?_ | refine Br.f ?_ | refine ⟨rfl, ?_⟩)
    conv => whnf
    refine CallW.mono (raceawake.pure _ rfl rfl) ?_
    rintro r st' ⟨rfl, rfl⟩
    repeat ((conv => whnf); first | refine Br.t ?_ | refine Br.f ?_ | refine ⟨rfl, ?_⟩)
    conv => whnf
    refine fin (target := []) rfl (Nat.zero_le _) (by simp) rfl rfl
  · repeat ((conv => whnf); first | refine Br.t ?_ | refine Br.f ?_ | refine ⟨rfl, ?_⟩)
    conv => whnf
    refine Br.mk (fun z2 => ?_) (fun z2 => ?_)
    · repeat ((conv => whnf); first | refine Br.t ?_ | refine Br.f ?_ | refine ⟨rfl, ?_⟩)
      conv => whnf
      refine CallW.mono (raceawake.pure _ rfl rfl) ?_
      rintro r st' ⟨rfl, rfl⟩
      repeat ((conv => whnf); first | refine Br.t ?_ | refine Br.f ?_ | refine ⟨rfl, ?_⟩)
      conv => whnf
      refine fin (target := []) rfl (Nat.zero_le _) (by simp) rfl rfl
    · have hll : l.length ≤ 300 := by simp at z2; omega
      have hsm : smallB p = true := by simpa using z
      unfold smallB at hsm
      simp only [Bool.and_eq_true, decide_eq_true_eq, List.all_eq_true] at hsm
      have cq := runs_ok (qP p) (qP_okPg hp0) l (by omega)
      have cr := runs_ok p hp0 l (by omega)
      unfold runsV at cq cr
      repeat ((conv => whnf); first | refine Br.t ?_ | refine Br.f ?_ | refine ⟨rfl, ?_⟩)
      conv => whnf
      refine W.le ((Le.nilCell (n := 0) 1 0 3 1 rfl rfl rfl).trans (Le.slotsE (sl' := rqS l 0 []) (st' := rqB p 0) (by simp [leS, mkS, rqS]) rfl)) (W.mono (rq_out p l hsm.1 hsm.2) ?_)
      rintro e s' ⟨rfl, rfl⟩
      by_cases h1 : (chk (qP p)).2.2 = 0
      · have hq := chk_zero h1
        rw [if_pos h1, if_pos h1] at cq
        have hc : OkC (qP p) (runC (qP p) cfg0 l) := runC_ok hq _ (cfg0_ok hq)
        obtain ⟨c, hcc⟩ : ∃ c, c = runC (qP p) cfg0 l := ⟨_, rfl⟩
        rw [← hcc] at cq hc
        have cf := first_ok (qP p) hq c hc
        rw [qP_none hq hc] at cf
        repeat ((conv => whnf); first | refine Br.t ?_ | refine Br.f ?_ | refine ⟨rfl, ?_⟩)
        conv => whnf
        refine CallW.mono (cq.pure _ rfl rfl) ?_
        rintro r st' ⟨rfl, rfl⟩
        repeat ((conv => whnf); first | refine Br.t ?_ | refine Br.f ?_ | refine ⟨rfl, ?_⟩)
        conv => whnf
        refine CallW.mono (cf.pure _ rfl rfl) ?_
        rintro r st' ⟨rfl, rfl⟩
        by_cases h0 : (chk p).2.2 = 0
        · have hp := chk_zero h0
          rw [if_pos h0, if_pos h0] at cr
          have hd : OkC p (runC p cfg0 l) := runC_ok hp _ (cfg0_ok hp)
          obtain ⟨d, hdd⟩ : ∃ d, d = runC p cfg0 l := ⟨_, rfl⟩
          rw [← hdd] at cr hd
          have cf2 := first_ok p hp d hd
          have hfs := @firstR_some (touches p d)
          obtain ⟨o, ho⟩ : ∃ o, o = firstR (touches p d) := ⟨_, rfl⟩
          rw [← ho] at cf2 hfs
          repeat ((conv => whnf); first | refine Br.t ?_ | refine Br.f ?_ | refine ⟨rfl, ?_⟩)
          conv => whnf
          refine CallW.mono (cr.pure _ rfl rfl) ?_
          rintro r st' ⟨rfl, rfl⟩
          rcases o with _ | ⟨x, y⟩
          · repeat ((conv => whnf); first | refine Br.t ?_ | refine Br.f ?_ | refine ⟨rfl, ?_⟩)
            conv => whnf
            refine CallW.mono (cf2.pure _ rfl rfl) ?_
            rintro r st' ⟨rfl, rfl⟩
            repeat ((conv => whnf); first | refine Br.t ?_ | refine Br.f ?_ | refine ⟨rfl, ?_⟩)
            conv => whnf
            refine fin (target := []) rfl (Nat.zero_le _) (by simp) rfl rfl
          · obtain ⟨m1, m2, m3, m4⟩ := hfs (touchL_pw p d _) rfl
            have := (first_in_range m2).1
            have hd1 : 1 < d.ths.length := by omega
            repeat ((conv => whnf); first | refine Br.t ?_ | refine Br.f ?_ | refine ⟨rfl, ?_⟩)
            conv => whnf
            refine CallW.mono (cf2.pure _ rfl rfl) ?_
            rintro r st' ⟨rfl, rfl⟩
            repeat ((conv => whnf); first | refine Br.t ?_ | refine Br.f ?_ | refine ⟨rfl, ?_⟩)
            conv => whnf
            refine fin (target := []) rfl (Nat.zero_le _) (by simp) ?_ rfl
            simp
            omega
        · rw [if_neg h0, if_neg h0] at cr
          repeat ((conv => whnf); first | refine Br.t ?_ | refine Br.f ?_ | refine ⟨rfl, ?_⟩)
          conv => whnf
          refine CallW.mono (cr.pure _ rfl rfl) ?_
          rintro r st' ⟨rfl, rfl⟩
          repeat ((conv => whnf); first | refine Br.t ?_ | refine Br.f ?_ | refine ⟨rfl, ?_⟩)
          conv => whnf
          refine CallW.mono ((firstZ p).pure _ rfl rfl) ?_
          rintro r st' ⟨rfl, rfl⟩
          repeat ((conv => whnf); first | refine Br.t ?_ | refine Br.f ?_ | refine ⟨rfl, ?_⟩)
          conv => whnf
          refine fin (target := []) rfl (Nat.zero_le _) (by simp) rfl rfl
      · rw [if_neg h1, if_neg h1] at cq
        repeat ((conv => whnf); first | refine Br.t ?_ | refine Br.f ?_ | refine ⟨rfl, ?_⟩)
        conv => whnf
        refine CallW.mono (cq.pure _ rfl rfl) ?_
        rintro r st' ⟨rfl, rfl⟩
        repeat ((conv => whnf); first | refine Br.t ?_ | refine Br.f ?_ | refine ⟨rfl, ?_⟩)
        conv => whnf
        refine fin (target := []) rfl (Nat.zero_le _) (by simp) rfl rfl
end Go.Proofs.Ytiikndppckjmhaa.Am
