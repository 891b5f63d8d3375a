/- Contracts: which locks are held at all accesses is the document's. -/
import Derived.Test.YtpbbkfekibmaiaaDoorGnB
import Derived.Test.YtpbbkfekibmaiaaDoorPsF
namespace Go.Proofs.YtpbbkfekibmaiaaDoor.Am
set_option autoImplicit false
set_option linter.unusedVariables false
set_option linter.unusedSimpArgs false
set_option maxRecDepth 10000
set_option pp.maxSteps 20000
set_option pp.proofs false
theorem accN_nil {g : Int} {s : Sec} : ∀ (i : Nat) (l : List Nd), (shd s).length ≤ i → accN g s i l = []
  | _, [], _ => by rw [accN]
  | i, n :: r, h => by
    rw [accN, if_neg (fun h2 => by have := h2.2.2.2; omega), accN_nil (i + 1) r (by omega)]; rfl
theorem meet_bit (i : Nat) : ∀ (l : List Nat) (m : Nat), (l.foldl (· &&& ·) m).testBit i = (m.testBit i && l.all fun x => x.testBit i)
  | [], m => by simp
  | x :: l, m => by rw [List.foldl_cons, meet_bit i l, Nat.testBit_and, List.all_cons, Bool.and_assoc]
theorem meet_lt (l : List Nat) : meetN l < 4294967296 := lt32 fun i hi => by
  rw [meetN, meet_bit, tb32 (by decide) hi]; rfl
def wants (A : List (Nat × Bool)) (j : Nat) : List Nat := (List.range j).filter fun k => A.all fun x => x.1.testBit k
theorem wants_len (A : List (Nat × Bool)) (j : Nat) : (wants A j).length ≤ j := by
  have := List.length_filter_le (fun k => A.all fun x => x.1.testBit k) (List.range j)
  rwa [List.length_range] at this
theorem wants_ids (A : List (Nat × Bool)) : wants A 32 = ids (meetN (A.map Prod.fst)) := by
  unfold wants ids
  refine List.filter_congr fun i hi => ?_
  rw [meetN, meet_bit, show (4294967295 : Nat) = 2 ^ 32 - 1 by decide, Nat.testBit_two_pow_sub_one, decide_eq_true (by simpa using hi), Bool.true_and, List.all_map]
  rfl
theorem wants_snoc (A : List (Nat × Bool)) (j : Nat) : wants A (j + 1) = wants A j ++ if (A.all fun x => x.1.testBit j) = true then [j] else [] := by
  unfold wants
  rw [List.range_succ, List.filter_append]
  congr 1
  rw [List.filter_cons, List.filter_nil]
def lawS (l : List Sec) (g : Int) (A : List (Nat × Bool)) (j : Nat) (is w : Bool) : List (Nat × V) :=
  [(1, .i (.sl (l.map encSec))), (2, .i (.int .i64 g)), (3, .ptr 0 0 0 0), (6, .i (.bool false)), (7, .i (.int .u32 (meetN (A.map Prod.fst) : Nat))), (8, .i (.bool (decide (0 < A.length)))), (9, .i (.bool (A.any Prod.snd))),
   (10, .ref 1 1 0 (wants A j).length), (11, .i (.bool is)), (12, .i (.bool w)), (13, .i (.int .i64 j))]
def isJ (A : List (Nat × Bool)) (j : Nat) : Bool := decide (0 < j) && decide (0 < A.length)
def wJ (A : List (Nat × Bool)) (j : Nat) : Bool := decide (0 < j) && A.any Prod.snd
theorem isJ_step (A : List (Nat × Bool)) (j : Nat) : (isJ A j || decide (0 < A.length)) = isJ A (j + 1) := by
  unfold isJ; cases decide (0 < j) <;> simp
theorem wJ_step (A : List (Nat × Bool)) (j : Nat) : (wJ A j || A.any Prod.snd) = wJ A (j + 1) := by
  unfold wJ; cases decide (0 < j) <;> simp
set_option maxHeartbeats 20000000 in
theorem needs4 (p : Pg) (hp : okPg p) (l : List Sec) (hl : l.length ≤ 9223372036854775807) (hs : ∀ s ∈ l, okSec s) (g : Int) :
    CallW Tryd.prog G1 4 [pgV p, .i (.sl (l.map encSec)), .i (.int .i64 g)] [] (fun r st' => r = .i (.bool true) ∧ st' = []) := by
  refine call_of_bodyF 0 (Nat.le_refl _) Tryd.func4 rfl (fun a w => Tryd.call4 a w) (wpx_ok (own := own0) _ _ _ ?_)
  repeat ((conv => whnf); first | refine Br.t ?_ | refine Br.f ?_ | refine ⟨rfl, ?_⟩)
  conv => whnf
  refine CallW.mono (awake9.pure _ rfl rfl) ?_
  rintro r st' ⟨rfl, rfl⟩
  repeat ((conv => whnf); first | refine Br.t ?_ | refine Br.f ?_ | refine ⟨rfl, ?_⟩)
  conv => whnf
  refine CallW.mono (((small16 p hp).glob).pure _ rfl rfl) ?_
  rintro r st' ⟨rfl, rfl⟩
  repeat ((conv => whnf); first | refine Br.t ?_ | refine Br.f ?_ | refine ⟨rfl, ?_⟩)
  conv => whnf
  refine Br.mk (fun z => ?_) (fun z => ?_)
  · repeat ((conv => whnf); first | refine Br.t ?_ | refine Br.f ?_ | refine ⟨rfl, ?_⟩)
    conv => whnf
    refine CallW.mono (awake9.pure _ rfl rfl) ?_
    rintro r st' ⟨rfl, rfl⟩
    repeat ((conv => whnf); first | refine Br.t ?_ | refine Br.f ?_ | refine ⟨rfl, ?_⟩)
    conv => whnf
    refine fin (target := []) rfl (Nat.zero_le _) (by simp) rfl rfl
  · have hsm : smallB p = true := by simpa using z
    unfold smallB at hsm
    simp only [Bool.and_eq_true, decide_eq_true_eq, List.all_eq_true] at hsm
    obtain ⟨b1, b2⟩ := hsm
    repeat ((conv => whnf); first | refine Br.t ?_ | refine Br.f ?_ | refine ⟨rfl, ?_⟩)
    conv => whnf
    refine CallW.mono (((few11 l hl hs).glob).pure _ rfl rfl) ?_
    rintro r st' ⟨rfl, rfl⟩
    repeat ((conv => whnf); first | refine Br.t ?_ | refine Br.f ?_ | refine ⟨rfl, ?_⟩)
    conv => whnf
    refine Br.mk (fun z2 => ?_) (fun z2 => ?_)
    · repeat ((conv => whnf); first | refine Br.t ?_ | refine Br.f ?_ | refine ⟨rfl, ?_⟩)
      conv => whnf
      refine CallW.mono (awake9.pure _ rfl rfl) ?_
      rintro r st' ⟨rfl, rfl⟩
      repeat ((conv => whnf); first | refine Br.t ?_ | refine Br.f ?_ | refine ⟨rfl, ?_⟩)
      conv => whnf
      refine fin (target := []) rfl (Nat.zero_le _) (by simp) rfl rfl
    · have hfw : fewB l = true := by simpa using z2
      unfold fewB at hfw
      simp only [Bool.and_eq_true, decide_eq_true_eq, List.all_eq_true] at hfw
      obtain ⟨b3, b4⟩ := hfw
      repeat ((conv => whnf); first | refine Br.t ?_ | refine Br.f ?_ | refine ⟨rfl, ?_⟩)
      conv => whnf
      refine CallW.mono (((needs16 p l g b1 b2 b3 hs (fun s h => (b4 s h).1)).glob).pure _ rfl rfl) ?_
      rintro r st' ⟨rfl, rfl⟩
      obtain ⟨A, hA⟩ : ∃ A, A = accF g p.fs l := ⟨_, rfl⟩
      rw [← hA]
      repeat ((conv => whnf); first | refine Br.t ?_ | refine Br.f ?_ | refine ⟨rfl, ?_⟩)
      conv => whnf
      refine loop_ok (α := Nat) (fun j => ⟨mkS 157 (lawS l g A j (isJ A j) (wJ A j)), [pgB p, .row 1 1 false (lift ((wants A j).map elI))]⟩)
        (fun j => j ≤ 32) (fun j => 32 - j) 0 (Nat.zero_le _)
        ((Le.nil (n := 0) 10 1 rfl).trans (Le.slots (by simp [leS, mkS, lawS, isJ, wJ, wants]))) (fun j hj => wpx_ok (own := own0) _ _ _ ?_)
      have hwl := wants_len A j
      repeat ((conv => whnf); first | refine Br.t ?_ | refine Br.f ?_ | refine ⟨rfl, ?_⟩)
      conv => whnf
      refine Br.mk (fun g1 => ?_) (fun g1 => ?_)
      · have g1 : j < 32 := by simp at g1; omega
        have hbj : isJ A j = isJ A j := rfl
        repeat ((conv => whnf); first | refine Br.t ?_ | refine Br.f ?_ | refine ⟨rfl, ?_⟩)
        conv => whnf
        refine loop_ok (α := Nat × List (Nat × Bool)) (fun x => ⟨mkS 157 (lawS l g A j (isJ A j || decide (0 < x.2.length)) (wJ A j || x.2.any Prod.snd) ++ [(14, .i (.bool (x.2.all fun x => x.1.testBit j))), (15, .i (.int .i64 x.1))]), [pgB p, .row 1 1 false (lift ((wants A j).map elI))]⟩)
          (fun x => x.1 ≤ p.fs.length ∧ x.1 ≤ l.length ∧ x.2 ++ accF g (p.fs.drop x.1) (l.drop x.1) = A) (fun x => p.fs.length - x.1) (0, []) ⟨Nat.zero_le _, Nat.zero_le _, by rw [List.drop_zero, List.drop_zero, ← hA]; rfl⟩
          (Le.slots (by simp [leS, mkS, lawS])) (fun x hx => wpx_ok (own := own0) _ _ _ ?_)
        obtain ⟨f, acc⟩ := x
        obtain ⟨q1, q2, q3⟩ := hx
        simp only at q1 q2 q3
        dsimp only
        have hdone : (p.fs.length ≤ f ∨ l.length ≤ f) → acc = A := fun h => by
          rw [accF_nil (by
            rcases h with h | h
            · exact .inl (List.drop_eq_nil_of_le h)
            · exact .inr (List.drop_eq_nil_of_le h)), List.append_nil] at q3
          exact q3
        repeat ((conv => whnf); first | refine Br.t ?_ | refine Br.f ?_ | refine ⟨rfl, ?_⟩)
        conv => whnf
        refine Br.mk (fun g2 => ?_) (fun g2 => ?_)
        · have g2 : f < p.fs.length := by simpa using g2
          repeat ((conv => whnf); first | refine Br.t ?_ | refine Br.f ?_ | refine ⟨rfl, ?_⟩)
          conv => whnf
          refine Br.mk (fun g3 => ?_) (fun g3 => ?_)
          · have g3 : f < l.length := by simpa using g3
            obtain ⟨L, hL⟩ : ∃ L, L = p.fs[f] := ⟨_, rfl⟩
            have hLm : L ∈ p.fs := hL ▸ List.getElem_mem _
            have eL : (p.fs.map encF).getD (f : Int).toNat [] = encF L := by rw [hL]; exact getD_enc g2
            have edr : p.fs.drop f = L :: p.fs.drop (f + 1) := by rw [hL]; exact List.drop_eq_getElem_cons g2
            obtain ⟨s, hS⟩ : ∃ s, s = l[f] := ⟨_, rfl⟩
            have hsm : s ∈ l := hS ▸ List.getElem_mem _
            have es : (l.map encSec).getD (f : Int).toNat [] = encSec s := by rw [hS]; exact getD_enc g3
            have eds : l.drop f = s :: l.drop (f + 1) := by rw [hS]; exact List.drop_eq_getElem_cons g3
            have hLl := b2 L hLm
            have oks := hs s hsm
            have hsl := b4 s hsm
            rw [edr, eds, accF] at q3
            repeat ((conv => whnf); first | refine Br.t ?_ | refine Br.f ?_ | refine ⟨rfl, ?_⟩)
            conv => whnf
            refine loop_ok (α := Nat × List (Nat × Bool)) (fun x => ⟨mkS 157 (lawS l g A j (isJ A j || decide (0 < x.2.length)) (wJ A j || x.2.any Prod.snd) ++ [(14, .i (.bool (x.2.all fun x => x.1.testBit j))), (15, .i (.int .i64 f)), (16, .i (.int .i64 x.1))]), [pgB p, .row 1 1 false (lift ((wants A j).map elI))]⟩)
              (fun x => x.1 ≤ L.length ∧ x.1 ≤ (shd s).length ∧ x.2 ++ (accN g s x.1 (L.drop x.1) ++ accF g (p.fs.drop (f + 1)) (l.drop (f + 1))) = A) (fun x => L.length - x.1) (0, acc) ⟨Nat.zero_le _, Nat.zero_le _, q3⟩
              (Le.slots (by simp [leS, mkS, lawS])) (fun x hx => wpx_ok (own := own0) _ _ _ ?_)
            obtain ⟨i, ac⟩ := x
            obtain ⟨s1, s2, s3⟩ := hx
            simp only at s1 s2 s3
            dsimp only
            repeat ((conv => whnf); first | refine Br.t ?_ | refine Br.f ?_ | refine ⟨rfl, ?_⟩)
            conv => whnf
            rw [eL]
            refine ⟨⟨by omega, by simp; omega, rfl⟩, ?_⟩
            repeat ((conv => whnf); first | refine Br.t ?_ | refine Br.f ?_ | refine ⟨rfl, ?_⟩)
            conv => whnf
            refine Br.mk (fun g4 => ?_) (fun g4 => ?_)
            · have g4 : i < L.length := by simpa using g4
              repeat ((conv => whnf); first | refine Br.t ?_ | refine Br.f ?_ | refine ⟨rfl, ?_⟩)
              conv => whnf
              rw [es]
              refine ⟨⟨by omega, by simp; omega, rfl⟩, ?_⟩
              repeat ((conv => whnf); first | refine Br.t ?_ | refine Br.f ?_ | refine ⟨rfl, ?_⟩)
              conv => whnf
              refine Br.mk (fun g5 => ?_) (fun g5 => ?_)
              · have g5 : i < (shd s).length := by simpa using g5
                obtain ⟨y, hy⟩ : ∃ y, y = L[i] := ⟨_, rfl⟩
                have hym : y ∈ L := hy ▸ List.getElem_mem g4
                have ey : (L.map encNd).getD (i : Int).toNat [] = encNd y := by rw [hy]; exact getD_enc g4
                have edy : L.drop i = y :: L.drop (i + 1) := by rw [hy]; exact List.drop_eq_getElem_cons g4
                rw [edy, accN] at s3
                repeat ((conv => whnf); first | refine Br.t ?_ | refine Br.f ?_ | refine ⟨rfl, ?_⟩)
                conv => whnf
                rw [eL]
                refine ⟨⟨by omega, by simp; omega, rfl⟩, ?_⟩
                repeat ((conv => whnf); first | refine Br.t ?_ | refine Br.f ?_ | refine ⟨rfl, ?_⟩)
                conv => whnf
                rw [ey]
                refine ⟨⟨by omega, by simp; omega, rfl⟩, ?_⟩
                repeat ((conv => whnf); first | refine Br.t ?_ | refine Br.f ?_ | refine ⟨rfl, ?_⟩)
                conv => whnf
                refine Br.mk (fun k1 => ?_) (fun k1 => ?_)
                · have k1 : y.1 ≠ 1 := by simpa using k1
                  repeat ((conv => whnf); first | refine Br.t ?_ | refine Br.f ?_ | refine ⟨rfl, ?_⟩)
                  conv => whnf
                  refine Br.mk (fun k0 => ?_) (fun k0 => ?_)
                  · have k0 : y.1 ≠ 2 := by simpa using k0
                    have hno : ¬ accB g s i y := fun h => h.1.elim k1 k0
                    rw [if_neg hno, List.nil_append] at s3
                    repeat ((conv => whnf); first | refine Br.t ?_ | refine Br.f ?_ | refine ⟨rfl, ?_⟩)
                    conv => whnf
                    refine ⟨(i + 1, ac), ⟨by simp only; omega, by simp only; omega, s3⟩, by simp only; omega, Le.back (fun _ => 0) (by intro id hid; rfl) (by simp) rfl ?_ ?_ ?_⟩
                    · exact ndA_cl p _ _
                    · simp [leS, mkS, lawS, V.up]
                      exact i64_id (by omega) (by omega)
                    · simp only [upSt, Ob.up, map_up_lift]
                      rfl
                  · have k0 : y.1 = 2 := by simpa using k0
                    repeat ((conv => whnf); first | refine Br.t ?_ | refine Br.f ?_ | refine ⟨rfl, ?_⟩)
                    conv => whnf
                    refine Br.mk (fun k2 => ?_) (fun k2 => ?_)
                    · have k2 : y.2.1 ≠ g := by simpa using k2
                      have hno : ¬ accB g s i y := fun h => k2 h.2.1
                      rw [if_neg hno, List.nil_append] at s3
                      repeat ((conv => whnf); first | refine Br.t ?_ | refine Br.f ?_ | refine ⟨rfl, ?_⟩)
                      conv => whnf
                      refine ⟨(i + 1, ac), ⟨by simp only; omega, by simp only; omega, s3⟩, by simp only; omega, Le.back (fun _ => 0) (by intro id hid; rfl) (by simp) rfl ?_ ?_ ?_⟩
                      · exact ndA_cl p _ _
                      · simp [leS, mkS, lawS, V.up]
                        exact i64_id (by omega) (by omega)
                      · simp only [upSt, Ob.up, map_up_lift]
                        rfl
                    · have k2 : y.2.1 = g := by simpa using k2
                      repeat ((conv => whnf); first | refine Br.t ?_ | refine Br.f ?_ | refine ⟨rfl, ?_⟩)
                      conv => whnf
                      rw [es]
                      refine ⟨⟨by omega, by simp; omega, rfl⟩, ?_⟩
                      repeat ((conv => whnf); first | refine Br.t ?_ | refine Br.f ?_ | refine ⟨rfl, ?_⟩)
                      conv => whnf
                      refine Br.mk (fun k3 => ?_) (fun k3 => ?_)
                      · have k3 : i < (slv s).length := by simpa using k3
                        have ev : ((slv s).map el32).getD (i : Int).toNat [] = el32 ((slv s).getD i 0) := by
                          rw [Int.toNat_natCast]
                          simp [List.getD_eq_getElem?_getD, k3]
                        repeat ((conv => whnf); first | refine Br.t ?_ | refine Br.f ?_ | refine ⟨rfl, ?_⟩)
                        conv => whnf
                        rw [es]
                        refine ⟨⟨by omega, by simp; omega, rfl⟩, ?_⟩
                        repeat ((conv => whnf); first | refine Br.t ?_ | refine Br.f ?_ | refine ⟨rfl, ?_⟩)
                        conv => whnf
                        rw [ev]
                        refine ⟨⟨by omega, by simp; omega, rfl⟩, ?_⟩
                        repeat ((conv => whnf); first | refine Br.t ?_ | refine Br.f ?_ | refine ⟨rfl, ?_⟩)
                        conv => whnf
                        refine Br.mk (fun k4 => ?_) (fun k4 => ?_)
                        · have k4 : (slv s).getD i 0 = 0 := by simpa using k4
                          have hno : ¬ accB g s i y := fun h => by have := h.2.2.1; unfold soloB at this; rw [k4, decide_eq_true k3] at this; cases this
                          rw [if_neg hno, List.nil_append] at s3
                          repeat ((conv => whnf); first | refine Br.t ?_ | refine Br.f ?_ | refine ⟨rfl, ?_⟩)
                          conv => whnf
                          refine ⟨(i + 1, ac), ⟨by simp only; omega, by simp only; omega, s3⟩, by simp only; omega, Le.back (fun _ => 0) (by intro id hid; rfl) (by simp) rfl ?_ ?_ ?_⟩
                          · exact ndA_cl p _ _
                          · simp [leS, mkS, lawS, V.up]
                            exact i64_id (by omega) (by omega)
                          · simp only [upSt, Ob.up, map_up_lift]
                            rfl
                        · have k4 : (slv s).getD i 0 ≠ 0 := by simpa using k4
                          have hyes : accB g s i y := ⟨.inr k0, k2, by unfold soloB; rw [decide_eq_false k4, Bool.and_false], g5⟩
                          rw [if_pos hyes, ← List.append_assoc, ← List.append_assoc] at s3
                          have eh : ((shd s).map el32).getD (i : Int).toNat [] = el32 ((shd s).getD i 0) := by
                            rw [Int.toNat_natCast]
                            simp [List.getD_eq_getElem?_getD, g5]
                          have hh : (shd s).getD i 0 < 4294967296 := by
                            rw [show (shd s).getD i 0 = (shd s)[i] by simp [List.getD_eq_getElem?_getD, g5]]
                            exact oks.1.2 _ (List.getElem_mem g5)
                          repeat ((conv => whnf); first | refine Br.t ?_ | refine Br.f ?_ | refine ⟨rfl, ?_⟩)
                          conv => whnf
                          refine draw_ok (own := own0) [] [] [] rfl (by kernel_rfl) (Nat.zero_le _) ?_
                          repeat ((conv => whnf); first | refine Br.t ?_ | refine Br.f ?_ | refine ⟨rfl, ?_⟩)
                          conv => whnf
                          refine Br.mk (fun k5 => ?_) (fun k5 => ?_)
                          · repeat ((conv => whnf); first | refine Br.t ?_ | refine Br.f ?_ | refine ⟨rfl, ?_⟩)
                            conv => whnf
                            refine ⟨by repeat ((conv => whnf); first | exact trivial | refine ⟨rfl, ?_⟩), trivial, ?_⟩
                            conv => whnf
                            refine Br.mk (fun k6 => ?_) (fun k6 => ?_)
                            · repeat ((conv => whnf); first | refine Br.t ?_ | refine Br.f ?_ | refine ⟨rfl, ?_⟩)
                              conv => whnf
                              rw [es]
                              refine ⟨⟨by omega, by simp; omega, rfl⟩, ?_⟩
                              repeat ((conv => whnf); first | refine Br.t ?_ | refine Br.f ?_ | refine ⟨rfl, ?_⟩)
                              conv => whnf
                              rw [eh]
                              refine ⟨⟨by omega, by simp; omega, rfl⟩, ?_⟩
                              repeat ((conv => whnf); first | refine Br.t ?_ | refine Br.f ?_ | refine ⟨rfl, ?_⟩)
                              conv => whnf
                              refine CallW.mono (((has17 ((shd s).getD i 0) j hh g1).glob).pure _ rfl rfl) ?_
                              rintro r st' ⟨rfl, rfl⟩
                              repeat ((conv => whnf); first | refine Br.t ?_ | refine Br.f ?_ | refine ⟨rfl, ?_⟩)
                              conv => whnf
                              refine ⟨(i + 1, ac ++ [((shd s).getD i 0, decide (y.1 = 2))]), ⟨by simp only; omega, by simp only; omega, by rw [← s3]; simp only [List.append_assoc]⟩, by simp only; omega, Le.back (fun _ => 0) (by intro id hid; rfl) (by simp) rfl ?_ ?_ ?_⟩
                              · exact ndA_cl p _ _
                              · simp [leS, mkS, lawS, V.up, List.any_append, List.all_append, k0, k6, k5]
                                first | done | exact i64_id (by omega) (by omega) | skip
                              · simp only [upSt, Ob.up, map_up_lift]
                                rfl
                            · repeat ((conv => whnf); first | refine Br.t ?_ | refine Br.f ?_ | refine ⟨rfl, ?_⟩)
                              conv => whnf
                              refine ⟨(i + 1, ac ++ [((shd s).getD i 0, decide (y.1 = 2))]), ⟨by simp only; omega, by simp only; omega, by rw [← s3]; simp only [List.append_assoc]⟩, by simp only; omega, Le.back (fun _ => 0) (by intro id hid; rfl) (by simp) rfl ?_ ?_ ?_⟩
                              · exact ndA_cl p _ _
                              · simp [leS, mkS, lawS, V.up, List.any_append, List.all_append, k0, k6, k5]
                                first | done | exact i64_id (by omega) (by omega) | skip
                              · simp only [upSt, Ob.up, map_up_lift]
                                rfl
                          · repeat ((conv => whnf); first | refine Br.t ?_ | refine Br.f ?_ | refine ⟨rfl, ?_⟩)
                            conv => whnf
                            refine ⟨by repeat ((conv => whnf); first | exact trivial | refine ⟨rfl, ?_⟩), trivial, ?_⟩
                            conv => whnf
                            refine Br.mk (fun k6 => ?_) (fun k6 => ?_)
                            · repeat ((conv => whnf); first | refine Br.t ?_ | refine Br.f ?_ | refine ⟨rfl, ?_⟩)
                              conv => whnf
                              rw [es]
                              refine ⟨⟨by omega, by simp; omega, rfl⟩, ?_⟩
                              repeat ((conv => whnf); first | refine Br.t ?_ | refine Br.f ?_ | refine ⟨rfl, ?_⟩)
                              conv => whnf
                              rw [eh]
                              refine ⟨⟨by omega, by simp; omega, rfl⟩, ?_⟩
                              repeat ((conv => whnf); first | refine Br.t ?_ | refine Br.f ?_ | refine ⟨rfl, ?_⟩)
                              conv => whnf
                              refine CallW.mono (((has17 ((shd s).getD i 0) j hh g1).glob).pure _ rfl rfl) ?_
                              rintro r st' ⟨rfl, rfl⟩
                              repeat ((conv => whnf); first | refine Br.t ?_ | refine Br.f ?_ | refine ⟨rfl, ?_⟩)
                              conv => whnf
                              refine ⟨(i + 1, ac ++ [((shd s).getD i 0, decide (y.1 = 2))]), ⟨by simp only; omega, by simp only; omega, by rw [← s3]; simp only [List.append_assoc]⟩, by simp only; omega, Le.back (fun _ => 0) (by intro id hid; rfl) (by simp) rfl ?_ ?_ ?_⟩
                              · exact ndA_cl p _ _
                              · simp [leS, mkS, lawS, V.up, List.any_append, List.all_append, k0, k6, k5]
                                first | done | exact i64_id (by omega) (by omega) | skip
                              · simp only [upSt, Ob.up, map_up_lift]
                                rfl
                            · repeat ((conv => whnf); first | refine Br.t ?_ | refine Br.f ?_ | refine ⟨rfl, ?_⟩)
                              conv => whnf
                              refine ⟨(i + 1, ac ++ [((shd s).getD i 0, decide (y.1 = 2))]), ⟨by simp only; omega, by simp only; omega, by rw [← s3]; simp only [List.append_assoc]⟩, by simp only; omega, Le.back (fun _ => 0) (by intro id hid; rfl) (by simp) rfl ?_ ?_ ?_⟩
                              · exact ndA_cl p _ _
                              · simp [leS, mkS, lawS, V.up, List.any_append, List.all_append, k0, k6, k5]
                                first | done | exact i64_id (by omega) (by omega) | skip
                              · simp only [upSt, Ob.up, map_up_lift]
                                rfl
                      · have k3 : ¬ i < (slv s).length := by simp at k3; omega
                        have hyes : accB g s i y := ⟨.inr k0, k2, by unfold soloB; rw [decide_eq_false k3, Bool.false_and], g5⟩
                        rw [if_pos hyes, ← List.append_assoc, ← List.append_assoc] at s3
                        have eh : ((shd s).map el32).getD (i : Int).toNat [] = el32 ((shd s).getD i 0) := by
                          rw [Int.toNat_natCast]
                          simp [List.getD_eq_getElem?_getD, g5]
                        have hh : (shd s).getD i 0 < 4294967296 := by
                          rw [show (shd s).getD i 0 = (shd s)[i] by simp [List.getD_eq_getElem?_getD, g5]]
                          exact oks.1.2 _ (List.getElem_mem g5)
                        repeat ((conv => whnf); first | refine Br.t ?_ | refine Br.f ?_ | refine ⟨rfl, ?_⟩)
                        conv => whnf
                        refine draw_ok (own := own0) [] [] [] rfl (by kernel_rfl) (Nat.zero_le _) ?_
                        repeat ((conv => whnf); first | refine Br.t ?_ | refine Br.f ?_ | refine ⟨rfl, ?_⟩)
                        conv => whnf
                        refine Br.mk (fun k5 => ?_) (fun k5 => ?_)
                        · repeat ((conv => whnf); first | refine Br.t ?_ | refine Br.f ?_ | refine ⟨rfl, ?_⟩)
                          conv => whnf
                          refine ⟨by repeat ((conv => whnf); first | exact trivial | refine ⟨rfl, ?_⟩), trivial, ?_⟩
                          conv => whnf
                          refine Br.mk (fun k6 => ?_) (fun k6 => ?_)
                          · repeat ((conv => whnf); first | refine Br.t ?_ | refine Br.f ?_ | refine ⟨rfl, ?_⟩)
                            conv => whnf
                            rw [es]
                            refine ⟨⟨by omega, by simp; omega, rfl⟩, ?_⟩
                            repeat ((conv => whnf); first | refine Br.t ?_ | refine Br.f ?_ | refine ⟨rfl, ?_⟩)
                            conv => whnf
                            rw [eh]
                            refine ⟨⟨by omega, by simp; omega, rfl⟩, ?_⟩
                            repeat ((conv => whnf); first | refine Br.t ?_ | refine Br.f ?_ | refine ⟨rfl, ?_⟩)
                            conv => whnf
                            refine CallW.mono (((has17 ((shd s).getD i 0) j hh g1).glob).pure _ rfl rfl) ?_
                            rintro r st' ⟨rfl, rfl⟩
                            repeat ((conv => whnf); first | refine Br.t ?_ | refine Br.f ?_ | refine ⟨rfl, ?_⟩)
                            conv => whnf
                            refine ⟨(i + 1, ac ++ [((shd s).getD i 0, decide (y.1 = 2))]), ⟨by simp only; omega, by simp only; omega, by rw [← s3]; simp only [List.append_assoc]⟩, by simp only; omega, Le.back (fun _ => 0) (by intro id hid; rfl) (by simp) rfl ?_ ?_ ?_⟩
                            · exact ndA_cl p _ _
                            · simp [leS, mkS, lawS, V.up, List.any_append, List.all_append, k0, k6, k5]
                              first | done | exact i64_id (by omega) (by omega) | skip
                            · simp only [upSt, Ob.up, map_up_lift]
                              rfl
                          · repeat ((conv => whnf); first | refine Br.t ?_ | refine Br.f ?_ | refine ⟨rfl, ?_⟩)
                            conv => whnf
                            refine ⟨(i + 1, ac ++ [((shd s).getD i 0, decide (y.1 = 2))]), ⟨by simp only; omega, by simp only; omega, by rw [← s3]; simp only [List.append_assoc]⟩, by simp only; omega, Le.back (fun _ => 0) (by intro id hid; rfl) (by simp) rfl ?_ ?_ ?_⟩
                            · exact ndA_cl p _ _
                            · simp [leS, mkS, lawS, V.up, List.any_append, List.all_append, k0, k6, k5]
                              first | done | exact i64_id (by omega) (by omega) | skip
                            · simp only [upSt, Ob.up, map_up_lift]
                              rfl
                        · repeat ((conv => whnf); first | refine Br.t ?_ | refine Br.f ?_ | refine ⟨rfl, ?_⟩)
                          conv => whnf
                          refine ⟨by repeat ((conv => whnf); first | exact trivial | refine ⟨rfl, ?_⟩), trivial, ?_⟩
                          conv => whnf
                          refine Br.mk (fun k6 => ?_) (fun k6 => ?_)
                          · repeat ((conv => whnf); first | refine Br.t ?_ | refine Br.f ?_ | refine ⟨rfl, ?_⟩)
                            conv => whnf
                            rw [es]
                            refine ⟨⟨by omega, by simp; omega, rfl⟩, ?_⟩
                            repeat ((conv => whnf); first | refine Br.t ?_ | refine Br.f ?_ | refine ⟨rfl, ?_⟩)
                            conv => whnf
                            rw [eh]
                            refine ⟨⟨by omega, by simp; omega, rfl⟩, ?_⟩
                            repeat ((conv => whnf); first | refine Br.t ?_ | refine Br.f ?_ | refine ⟨rfl, ?_⟩)
                            conv => whnf
                            refine CallW.mono (((has17 ((shd s).getD i 0) j hh g1).glob).pure _ rfl rfl) ?_
                            rintro r st' ⟨rfl, rfl⟩
                            repeat ((conv => whnf); first | refine Br.t ?_ | refine Br.f ?_ | refine ⟨rfl, ?_⟩)
                            conv => whnf
                            refine ⟨(i + 1, ac ++ [((shd s).getD i 0, decide (y.1 = 2))]), ⟨by simp only; omega, by simp only; omega, by rw [← s3]; simp only [List.append_assoc]⟩, by simp only; omega, Le.back (fun _ => 0) (by intro id hid; rfl) (by simp) rfl ?_ ?_ ?_⟩
                            · exact ndA_cl p _ _
                            · simp [leS, mkS, lawS, V.up, List.any_append, List.all_append, k0, k6, k5]
                              first | done | exact i64_id (by omega) (by omega) | skip
                            · simp only [upSt, Ob.up, map_up_lift]
                              rfl
                          · repeat ((conv => whnf); first | refine Br.t ?_ | refine Br.f ?_ | refine ⟨rfl, ?_⟩)
                            conv => whnf
                            refine ⟨(i + 1, ac ++ [((shd s).getD i 0, decide (y.1 = 2))]), ⟨by simp only; omega, by simp only; omega, by rw [← s3]; simp only [List.append_assoc]⟩, by simp only; omega, Le.back (fun _ => 0) (by intro id hid; rfl) (by simp) rfl ?_ ?_ ?_⟩
                            · exact ndA_cl p _ _
                            · simp [leS, mkS, lawS, V.up, List.any_append, List.all_append, k0, k6, k5]
                              first | done | exact i64_id (by omega) (by omega) | skip
                            · simp only [upSt, Ob.up, map_up_lift]
                              rfl
                · have k1 : y.1 = 1 := by simpa using k1
                  repeat ((conv => whnf); first | refine Br.t ?_ | refine Br.f ?_ | refine ⟨rfl, ?_⟩)
                  conv => whnf
                  refine Br.mk (fun k2 => ?_) (fun k2 => ?_)
                  · have k2 : y.2.1 ≠ g := by simpa using k2
                    have hno : ¬ accB g s i y := fun h => k2 h.2.1
                    rw [if_neg hno, List.nil_append] at s3
                    repeat ((conv => whnf); first | refine Br.t ?_ | refine Br.f ?_ | refine ⟨rfl, ?_⟩)
                    conv => whnf
                    refine ⟨(i + 1, ac), ⟨by simp only; omega, by simp only; omega, s3⟩, by simp only; omega, Le.back (fun _ => 0) (by intro id hid; rfl) (by simp) rfl ?_ ?_ ?_⟩
                    · exact ndA_cl p _ _
                    · simp [leS, mkS, lawS, V.up]
                      exact i64_id (by omega) (by omega)
                    · simp only [upSt, Ob.up, map_up_lift]
                      rfl
                  · have k2 : y.2.1 = g := by simpa using k2
                    repeat ((conv => whnf); first | refine Br.t ?_ | refine Br.f ?_ | refine ⟨rfl, ?_⟩)
                    conv => whnf
                    rw [es]
                    refine ⟨⟨by omega, by simp; omega, rfl⟩, ?_⟩
                    repeat ((conv => whnf); first | refine Br.t ?_ | refine Br.f ?_ | refine ⟨rfl, ?_⟩)
                    conv => whnf
                    refine Br.mk (fun k3 => ?_) (fun k3 => ?_)
                    · have k3 : i < (slv s).length := by simpa using k3
                      have ev : ((slv s).map el32).getD (i : Int).toNat [] = el32 ((slv s).getD i 0) := by
                        rw [Int.toNat_natCast]
                        simp [List.getD_eq_getElem?_getD, k3]
                      repeat ((conv => whnf); first | refine Br.t ?_ | refine Br.f ?_ | refine ⟨rfl, ?_⟩)
                      conv => whnf
                      rw [es]
                      refine ⟨⟨by omega, by simp; omega, rfl⟩, ?_⟩
                      repeat ((conv => whnf); first | refine Br.t ?_ | refine Br.f ?_ | refine ⟨rfl, ?_⟩)
                      conv => whnf
                      rw [ev]
                      refine ⟨⟨by omega, by simp; omega, rfl⟩, ?_⟩
                      repeat ((conv => whnf); first | refine Br.t ?_ | refine Br.f ?_ | refine ⟨rfl, ?_⟩)
                      conv => whnf
                      refine Br.mk (fun k4 => ?_) (fun k4 => ?_)
                      · have k4 : (slv s).getD i 0 = 0 := by simpa using k4
                        have hno : ¬ accB g s i y := fun h => by have := h.2.2.1; unfold soloB at this; rw [k4, decide_eq_true k3] at this; cases this
                        rw [if_neg hno, List.nil_append] at s3
                        repeat ((conv => whnf); first | refine Br.t ?_ | refine Br.f ?_ | refine ⟨rfl, ?_⟩)
                        conv => whnf
                        refine ⟨(i + 1, ac), ⟨by simp only; omega, by simp only; omega, s3⟩, by simp only; omega, Le.back (fun _ => 0) (by intro id hid; rfl) (by simp) rfl ?_ ?_ ?_⟩
                        · exact ndA_cl p _ _
                        · simp [leS, mkS, lawS, V.up]
                          exact i64_id (by omega) (by omega)
                        · simp only [upSt, Ob.up, map_up_lift]
                          rfl
                      · have k4 : (slv s).getD i 0 ≠ 0 := by simpa using k4
                        have hyes : accB g s i y := ⟨.inl k1, k2, by unfold soloB; rw [decide_eq_false k4, Bool.and_false], g5⟩
                        rw [if_pos hyes, ← List.append_assoc, ← List.append_assoc] at s3
                        have eh : ((shd s).map el32).getD (i : Int).toNat [] = el32 ((shd s).getD i 0) := by
                          rw [Int.toNat_natCast]
                          simp [List.getD_eq_getElem?_getD, g5]
                        have hh : (shd s).getD i 0 < 4294967296 := by
                          rw [show (shd s).getD i 0 = (shd s)[i] by simp [List.getD_eq_getElem?_getD, g5]]
                          exact oks.1.2 _ (List.getElem_mem g5)
                        repeat ((conv => whnf); first | refine Br.t ?_ | refine Br.f ?_ | refine ⟨rfl, ?_⟩)
                        conv => whnf
                        refine draw_ok (own := own0) [] [] [] rfl (by kernel_rfl) (Nat.zero_le _) ?_
                        repeat ((conv => whnf); first | refine Br.t ?_ | refine Br.f ?_ | refine ⟨rfl, ?_⟩)
                        conv => whnf
                        refine Br.mk (fun k5 => ?_) (fun k5 => ?_)
                        · repeat ((conv => whnf); first | refine Br.t ?_ | refine Br.f ?_ | refine ⟨rfl, ?_⟩)
                          conv => whnf
                          refine ⟨by repeat ((conv => whnf); first | exact trivial | refine ⟨rfl, ?_⟩), trivial, ?_⟩
                          conv => whnf
                          refine Br.mk (fun k6 => ?_) (fun k6 => ?_)
                          · repeat ((conv => whnf); first | refine Br.t ?_ | refine Br.f ?_ | refine ⟨rfl, ?_⟩)
                            conv => whnf
                            rw [es]
                            refine ⟨⟨by omega, by simp; omega, rfl⟩, ?_⟩
                            repeat ((conv => whnf); first | refine Br.t ?_ | refine Br.f ?_ | refine ⟨rfl, ?_⟩)
                            conv => whnf
                            rw [eh]
                            refine ⟨⟨by omega, by simp; omega, rfl⟩, ?_⟩
                            repeat ((conv => whnf); first | refine Br.t ?_ | refine Br.f ?_ | refine ⟨rfl, ?_⟩)
                            conv => whnf
                            refine CallW.mono (((has17 ((shd s).getD i 0) j hh g1).glob).pure _ rfl rfl) ?_
                            rintro r st' ⟨rfl, rfl⟩
                            repeat ((conv => whnf); first | refine Br.t ?_ | refine Br.f ?_ | refine ⟨rfl, ?_⟩)
                            conv => whnf
                            refine ⟨(i + 1, ac ++ [((shd s).getD i 0, decide (y.1 = 2))]), ⟨by simp only; omega, by simp only; omega, by rw [← s3]; simp only [List.append_assoc]⟩, by simp only; omega, Le.back (fun _ => 0) (by intro id hid; rfl) (by simp) rfl ?_ ?_ ?_⟩
                            · exact ndA_cl p _ _
                            · simp [leS, mkS, lawS, V.up, List.any_append, List.all_append, k1, k6, k5]
                              first | done | exact i64_id (by omega) (by omega) | skip
                            · simp only [upSt, Ob.up, map_up_lift]
                              rfl
                          · repeat ((conv => whnf); first | refine Br.t ?_ | refine Br.f ?_ | refine ⟨rfl, ?_⟩)
                            conv => whnf
                            refine ⟨(i + 1, ac ++ [((shd s).getD i 0, decide (y.1 = 2))]), ⟨by simp only; omega, by simp only; omega, by rw [← s3]; simp only [List.append_assoc]⟩, by simp only; omega, Le.back (fun _ => 0) (by intro id hid; rfl) (by simp) rfl ?_ ?_ ?_⟩
                            · exact ndA_cl p _ _
                            · simp [leS, mkS, lawS, V.up, List.any_append, List.all_append, k1, k6, k5]
                              first | done | exact i64_id (by omega) (by omega) | skip
                            · simp only [upSt, Ob.up, map_up_lift]
                              rfl
                        · repeat ((conv => whnf); first | refine Br.t ?_ | refine Br.f ?_ | refine ⟨rfl, ?_⟩)
                          conv => whnf
                          refine ⟨by repeat ((conv => whnf); first | exact trivial | refine ⟨rfl, ?_⟩), trivial, ?_⟩
                          conv => whnf
                          refine Br.mk (fun k6 => ?_) (fun k6 => ?_)
                          · repeat ((conv => whnf); first | refine Br.t ?_ | refine Br.f ?_ | refine ⟨rfl, ?_⟩)
                            conv => whnf
                            rw [es]
                            refine ⟨⟨by omega, by simp; omega, rfl⟩, ?_⟩
                            repeat ((conv => whnf); first | refine Br.t ?_ | refine Br.f ?_ | refine ⟨rfl, ?_⟩)
                            conv => whnf
                            rw [eh]
                            refine ⟨⟨by omega, by simp; omega, rfl⟩, ?_⟩
                            repeat ((conv => whnf); first | refine Br.t ?_ | refine Br.f ?_ | refine ⟨rfl, ?_⟩)
                            conv => whnf
                            refine CallW.mono (((has17 ((shd s).getD i 0) j hh g1).glob).pure _ rfl rfl) ?_
                            rintro r st' ⟨rfl, rfl⟩
                            repeat ((conv => whnf); first | refine Br.t ?_ | refine Br.f ?_ | refine ⟨rfl, ?_⟩)
                            conv => whnf
                            refine ⟨(i + 1, ac ++ [((shd s).getD i 0, decide (y.1 = 2))]), ⟨by simp only; omega, by simp only; omega, by rw [← s3]; simp only [List.append_assoc]⟩, by simp only; omega, Le.back (fun _ => 0) (by intro id hid; rfl) (by simp) rfl ?_ ?_ ?_⟩
                            · exact ndA_cl p _ _
                            · simp [leS, mkS, lawS, V.up, List.any_append, List.all_append, k1, k6, k5]
                              first | done | exact i64_id (by omega) (by omega) | skip
                            · simp only [upSt, Ob.up, map_up_lift]
                              rfl
                          · repeat ((conv => whnf); first | refine Br.t ?_ | refine Br.f ?_ | refine ⟨rfl, ?_⟩)
                            conv => whnf
                            refine ⟨(i + 1, ac ++ [((shd s).getD i 0, decide (y.1 = 2))]), ⟨by simp only; omega, by simp only; omega, by rw [← s3]; simp only [List.append_assoc]⟩, by simp only; omega, Le.back (fun _ => 0) (by intro id hid; rfl) (by simp) rfl ?_ ?_ ?_⟩
                            · exact ndA_cl p _ _
                            · simp [leS, mkS, lawS, V.up, List.any_append, List.all_append, k1, k6, k5]
                              first | done | exact i64_id (by omega) (by omega) | skip
                            · simp only [upSt, Ob.up, map_up_lift]
                              rfl
                    · have k3 : ¬ i < (slv s).length := by simp at k3; omega
                      have hyes : accB g s i y := ⟨.inl k1, k2, by unfold soloB; rw [decide_eq_false k3, Bool.false_and], g5⟩
                      rw [if_pos hyes, ← List.append_assoc, ← List.append_assoc] at s3
                      have eh : ((shd s).map el32).getD (i : Int).toNat [] = el32 ((shd s).getD i 0) := by
                        rw [Int.toNat_natCast]
                        simp [List.getD_eq_getElem?_getD, g5]
                      have hh : (shd s).getD i 0 < 4294967296 := by
                        rw [show (shd s).getD i 0 = (shd s)[i] by simp [List.getD_eq_getElem?_getD, g5]]
                        exact oks.1.2 _ (List.getElem_mem g5)
                      repeat ((conv => whnf); first | refine Br.t ?_ | refine Br.f ?_ | refine ⟨rfl, ?_⟩)
                      conv => whnf
                      refine draw_ok (own := own0) [] [] [] rfl (by kernel_rfl) (Nat.zero_le _) ?_
                      repeat ((conv => whnf); first | refine Br.t ?_ | refine Br.f ?_ | refine ⟨rfl, ?_⟩)
                      conv => whnf
                      refine Br.mk (fun k5 => ?_) (fun k5 => ?_)
                      · repeat ((conv => whnf); first | refine Br.t ?_ | refine Br.f ?_ | refine ⟨rfl, ?_⟩)
                        conv => whnf
                        refine ⟨by repeat ((conv => whnf); first | exact trivial | refine ⟨rfl, ?_⟩), trivial, ?_⟩
                        conv => whnf
                        refine Br.mk (fun k6 => ?_) (fun k6 => ?_)
                        · repeat ((conv => whnf); first | refine Br.t ?_ | refine Br.f ?_ | refine ⟨rfl, ?_⟩)
                          conv => whnf
                          rw [es]
                          refine ⟨⟨by omega, by simp; omega, rfl⟩, ?_⟩
                          repeat ((conv => whnf); first | refine Br.t ?_ | refine Br.f ?_ | refine ⟨rfl, ?_⟩)
                          conv => whnf
                          rw [eh]
                          refine ⟨⟨by omega, by simp; omega, rfl⟩, ?_⟩
                          repeat ((conv => whnf); first | refine Br.t ?_ | refine Br.f ?_ | refine ⟨rfl, ?_⟩)
                          conv => whnf
                          refine CallW.mono (((has17 ((shd s).getD i 0) j hh g1).glob).pure _ rfl rfl) ?_
                          rintro r st' ⟨rfl, rfl⟩
                          repeat ((conv => whnf); first | refine Br.t ?_ | refine Br.f ?_ | refine ⟨rfl, ?_⟩)
                          conv => whnf
                          refine ⟨(i + 1, ac ++ [((shd s).getD i 0, decide (y.1 = 2))]), ⟨by simp only; omega, by simp only; omega, by rw [← s3]; simp only [List.append_assoc]⟩, by simp only; omega, Le.back (fun _ => 0) (by intro id hid; rfl) (by simp) rfl ?_ ?_ ?_⟩
                          · exact ndA_cl p _ _
                          · simp [leS, mkS, lawS, V.up, List.any_append, List.all_append, k1, k6, k5]
                            first | done | exact i64_id (by omega) (by omega) | skip
                          · simp only [upSt, Ob.up, map_up_lift]
                            rfl
                        · repeat ((conv => whnf); first | refine Br.t ?_ | refine Br.f ?_ | refine ⟨rfl, ?_⟩)
                          conv => whnf
                          refine ⟨(i + 1, ac ++ [((shd s).getD i 0, decide (y.1 = 2))]), ⟨by simp only; omega, by simp only; omega, by rw [← s3]; simp only [List.append_assoc]⟩, by simp only; omega, Le.back (fun _ => 0) (by intro id hid; rfl) (by simp) rfl ?_ ?_ ?_⟩
                          · exact ndA_cl p _ _
                          · simp [leS, mkS, lawS, V.up, List.any_append, List.all_append, k1, k6, k5]
                            first | done | exact i64_id (by omega) (by omega) | skip
                          · simp only [upSt, Ob.up, map_up_lift]
                            rfl
                      · repeat ((conv => whnf); first | refine Br.t ?_ | refine Br.f ?_ | refine ⟨rfl, ?_⟩)
                        conv => whnf
                        refine ⟨by repeat ((conv => whnf); first | exact trivial | refine ⟨rfl, ?_⟩), trivial, ?_⟩
                        conv => whnf
                        refine Br.mk (fun k6 => ?_) (fun k6 => ?_)
                        · repeat ((conv => whnf); first | refine Br.t ?_ | refine Br.f ?_ | refine ⟨rfl, ?_⟩)
                          conv => whnf
                          rw [es]
                          refine ⟨⟨by omega, by simp; omega, rfl⟩, ?_⟩
                          repeat ((conv => whnf); first | refine Br.t ?_ | refine Br.f ?_ | refine ⟨rfl, ?_⟩)
                          conv => whnf
                          rw [eh]
                          refine ⟨⟨by omega, by simp; omega, rfl⟩, ?_⟩
                          repeat ((conv => whnf); first | refine Br.t ?_ | refine Br.f ?_ | refine ⟨rfl, ?_⟩)
                          conv => whnf
                          refine CallW.mono (((has17 ((shd s).getD i 0) j hh g1).glob).pure _ rfl rfl) ?_
                          rintro r st' ⟨rfl, rfl⟩
                          repeat ((conv => whnf); first | refine Br.t ?_ | refine Br.f ?_ | refine ⟨rfl, ?_⟩)
                          conv => whnf
                          refine ⟨(i + 1, ac ++ [((shd s).getD i 0, decide (y.1 = 2))]), ⟨by simp only; omega, by simp only; omega, by rw [← s3]; simp only [List.append_assoc]⟩, by simp only; omega, Le.back (fun _ => 0) (by intro id hid; rfl) (by simp) rfl ?_ ?_ ?_⟩
                          · exact ndA_cl p _ _
                          · simp [leS, mkS, lawS, V.up, List.any_append, List.all_append, k1, k6, k5]
                            first | done | exact i64_id (by omega) (by omega) | skip
                          · simp only [upSt, Ob.up, map_up_lift]
                            rfl
                        · repeat ((conv => whnf); first | refine Br.t ?_ | refine Br.f ?_ | refine ⟨rfl, ?_⟩)
                          conv => whnf
                          refine ⟨(i + 1, ac ++ [((shd s).getD i 0, decide (y.1 = 2))]), ⟨by simp only; omega, by simp only; omega, by rw [← s3]; simp only [List.append_assoc]⟩, by simp only; omega, Le.back (fun _ => 0) (by intro id hid; rfl) (by simp) rfl ?_ ?_ ?_⟩
                          · exact ndA_cl p _ _
                          · simp [leS, mkS, lawS, V.up, List.any_append, List.all_append, k1, k6, k5]
                            first | done | exact i64_id (by omega) (by omega) | skip
                          · simp only [upSt, Ob.up, map_up_lift]
                            rfl
              · have g5 : (shd s).length ≤ i := by simpa using g5
                rw [accN_nil i _ g5, List.nil_append] at s3
                repeat ((conv => whnf); first | refine Br.t ?_ | refine Br.f ?_ | refine ⟨rfl, ?_⟩)
                conv => whnf
                refine ⟨(f + 1, ac), ⟨by simp only; omega, by simp only; omega, s3⟩, by simp only; omega, Le.slots ?_⟩
                simp [leS, mkS, lawS]
                exact i64_id (by omega) (by omega)
            · have g4 : i = L.length := by simp at g4; omega
              subst g4
              rw [List.drop_length, accN, List.nil_append] at s3
              repeat ((conv => whnf); first | refine Br.t ?_ | refine Br.f ?_ | refine ⟨rfl, ?_⟩)
              conv => whnf
              refine ⟨(f + 1, ac), ⟨by simp only; omega, by simp only; omega, s3⟩, by simp only; omega, Le.slots ?_⟩
              simp [leS, mkS, lawS]
              exact i64_id (by omega) (by omega)
          · have g3 : l.length ≤ f := by simpa using g3
            have hac := hdone (.inr g3)
            repeat ((conv => whnf); first | refine Br.t ?_ | refine Br.f ?_ | refine ⟨rfl, ?_⟩)
            conv => whnf
            subst hac
            refine Br.mk (fun d => ?_) (fun d => ?_)
            · have ew : wants acc (j + 1) = wants acc j ++ [j] := by rw [wants_snoc, if_pos d]
              repeat ((conv => whnf); first | refine Br.t ?_ | refine Br.f ?_ | refine ⟨rfl, ?_⟩)
              conv => whnf
              refine ⟨⟨by intro cs hcs; simp at hcs; subst hcs; rfl, by simp [lift], by show (_ + 1) * 8 ≤ _; omega, len_mx (by simp [lift]; omega)⟩, ?_⟩
              repeat ((conv => whnf); first | refine Br.t ?_ | refine Br.f ?_ | refine ⟨rfl, ?_⟩)
              conv => whnf
              rw [isJ_step, wJ_step]
              refine ⟨j + 1, by omega, by omega, Le.down (fun id => if id = 1 then 1 else 0) (by intro id hid; simp at hid) ?_ ?_⟩
              · rw [ew]
                simp [leS, mkS, lawS, V.up, lift]
                have ewl : (wants acc (j + 1)).length = (wants acc j).length + 1 := by rw [ew]; simp
                first | exact ⟨ewl.symm, i64_id (by omega) (by omega)⟩ | exact i64_id (by omega) (by omega)
              · simp only [upSt, Ob.up, map_up_lift]
                rw [ew, List.map_append, lift_app]
                rfl
            · have ew : wants acc (j + 1) = wants acc j := by rw [wants_snoc, if_neg (by simp [d]), List.append_nil]
              repeat ((conv => whnf); first | refine Br.t ?_ | refine Br.f ?_ | refine ⟨rfl, ?_⟩)
              conv => whnf
              rw [isJ_step, wJ_step]
              refine ⟨j + 1, by omega, by omega, ?_⟩
              rw [ew]
              refine Le.slots ?_
              simp [leS, mkS, lawS]
              first | exact ⟨by rw [ew], i64_id (by omega) (by omega)⟩ | exact i64_id (by omega) (by omega)
        · have g2 : p.fs.length ≤ f := by simpa using g2
          have hac := hdone (.inl g2)
          repeat ((conv => whnf); first | refine Br.t ?_ | refine Br.f ?_ | refine ⟨rfl, ?_⟩)
          conv => whnf
          subst hac
          refine Br.mk (fun d => ?_) (fun d => ?_)
          · have ew : wants acc (j + 1) = wants acc j ++ [j] := by rw [wants_snoc, if_pos d]
            repeat ((conv => whnf); first | refine Br.t ?_ | refine Br.f ?_ | refine ⟨rfl, ?_⟩)
            conv => whnf
            refine ⟨⟨by intro cs hcs; simp at hcs; subst hcs; rfl, by simp [lift], by show (_ + 1) * 8 ≤ _; omega, len_mx (by simp [lift]; omega)⟩, ?_⟩
            repeat ((conv => whnf); first | refine Br.t ?_ | refine Br.f ?_ | refine ⟨rfl, ?_⟩)
            conv => whnf
            rw [isJ_step, wJ_step]
            refine ⟨j + 1, by omega, by omega, Le.down (fun id => if id = 1 then 1 else 0) (by intro id hid; simp at hid) ?_ ?_⟩
            · rw [ew]
              simp [leS, mkS, lawS, V.up, lift]
              have ewl : (wants acc (j + 1)).length = (wants acc j).length + 1 := by rw [ew]; simp
              first | exact ⟨ewl.symm, i64_id (by omega) (by omega)⟩ | exact i64_id (by omega) (by omega)
            · simp only [upSt, Ob.up, map_up_lift]
              rw [ew, List.map_append, lift_app]
              rfl
          · have ew : wants acc (j + 1) = wants acc j := by rw [wants_snoc, if_neg (by simp [d]), List.append_nil]
            repeat ((conv => whnf); first | refine Br.t ?_ | refine Br.f ?_ | refine ⟨rfl, ?_⟩)
            conv => whnf
            rw [isJ_step, wJ_step]
            refine ⟨j + 1, by omega, by omega, ?_⟩
            rw [ew]
            refine Le.slots ?_
            simp [leS, mkS, lawS]
            first | exact ⟨by rw [ew], i64_id (by omega) (by omega)⟩ | exact i64_id (by omega) (by omega)
      · have g1 : j = 32 := by simp at g1; omega
        subst g1
        repeat ((conv => whnf); first | refine Br.t ?_ | refine Br.f ?_ | refine ⟨rfl, ?_⟩)
        conv => whnf
        have cM := mask18 (wants A 32) (fun i hi => by simpa using (List.mem_filter.1 hi).1) (rising_filter _ 32)
        rw [wants_ids, pows_ids (meet_lt _), ← wants_ids] at cM
        refine CallW.mono (CallW.ref1 (id := 1) (ver := 1) (sz := 1) (ro := false) _ (cM.glob) rfl (by simp) rfl rfl) ?_
        rintro r st' ⟨rfl, rfl⟩
        repeat ((conv => whnf); first | refine Br.t ?_ | refine Br.f ?_ | refine ⟨rfl, ?_⟩)
        conv => whnf
        refine Br.mk (fun k => ?_) (fun k => by simp at k)
        repeat ((conv => whnf); first | refine Br.t ?_ | refine Br.f ?_ | refine ⟨rfl, ?_⟩)
        conv => whnf
        refine Br.mk (fun k => ?_) (fun k => by simp [isJ] at k)
        repeat ((conv => whnf); first | refine Br.t ?_ | refine Br.f ?_ | refine ⟨rfl, ?_⟩)
        conv => whnf
        refine fin (target := []) rfl (Nat.zero_le _) (by simp) ?_ rfl
        simp [wJ]
end Go.Proofs.YtpbbkfekibmaiaaDoor.Am
