/- Contract: which way a pick goes counts at a Branch alone. -/
import Derived.Test.YtiikndppckjmhaaSnA
import Derived.Test.YtiikndppckjmhaaAmBx
namespace Go.Proofs.Ytiikndppckjmhaa.Am
set_option autoImplicit false
set_option linter.unusedVariables false
set_option linter.unusedSimpArgs false
set_option maxRecDepth 10000
set_option pp.maxSteps 3000
set_option pp.proofs false


/-- behind a node that is no Branch, or goes on at one node, both ways are alike -/
theorem way_step (p : Pg) (c : Cfg) (who : Int) (h : ¬ (lives c who = true ∧ (atN p c who).1 = 8 ∧ (atN p c who).2.2.1 ≠ (atN p c who).2.2.2)) : stepC p c who false = stepC p c who true := by
  unfold stepC
  split
  · rename_i he
    have hl : lives c who = true := by
      unfold enab at he
      simp only [Bool.and_eq_true] at he
      exact he.1
    have eN : atN p c who = ndAt p c who := by unfold atN; rw [if_pos hl]
    rw [eN] at h
    split
    · rename_i th _
      obtain ⟨y, hy⟩ : ∃ y, y = ndAt p c who := ⟨_, rfl⟩
      rw [← hy] at h ⊢
      have e : (if y.1 = 8 ∧ false = true then y.2.2.2 else y.2.2.1) = (if y.1 = 8 ∧ true = true then y.2.2.2 else y.2.2.1) := by
        rw [if_neg (by simp)]
        by_cases h8 : y.1 = 8
        · rw [if_pos ⟨h8, rfl⟩]
          exact Classical.byContradiction fun k => h ⟨hl, h8, k⟩
        · rw [if_neg fun k => h8 k.1]
      unfold doC
      rw [e]
    · rfl
  · rfl
def rm17 : Ob := .row 0 17 false []
def zeroB1 : Ob := .row 1 17 false [.nils :: (ow16 []).map .i]
def rm8 : Tmp → Option Nat := fun x => match x with | 13 => some 3 | 14 => some 4 | _ => none
def swS (l : List (Int × Bool)) (w : Nat) (i : Nat) : List V := mkS 86 [(1, .i (.sl (l.map encP))), (2, .i (.int .u8 (w : Nat))), (3, .ptr 0 0 0 0), (7, .ptr 1 0 0 0), (9, .i (.int .i64 i))]
set_option maxHeartbeats 4000000 in
theorem semway (p : Pg) (hp0 : okPg p) (l : List (Int × Bool)) (hl : okL l) (w : Nat) (hw : w < 256) : CallW Try.prog G0 8 [pgV p, .i (.sl (l.map encP)), .i (.int .u8 (w : Nat))] [] (fun r st' => r = .i (.bool true) ∧ st' = []) := by
  refine call_of_bodyF 0 (Nat.le_refl _) Try.func8 rfl (fun a w => Try.call8 a w) (wpx_ok (own := own0) _ _ _ ?_)
  unfold okL at hl
  repeat ((conv => whnf); first | refine Br.t ?_ | refine Br.f ?_ | refine ⟨rfl, ?_⟩)
  conv => whnf
  refine CallW.mono (semawake.pure _ rfl rfl) ?_
  rintro r st' ⟨rfl, rfl⟩
  repeat ((conv => whnf); first | refine Br.t ?_ | refine Br.f ?_ | refine ⟨rfl, ?_⟩)
  conv => whnf
  refine CallW.mono ((small16 p hp0).pure _ rfl rfl) ?_
  rintro r st' ⟨rfl, rfl⟩
  repeat ((conv => whnf); first | refine Br.t ?_ | refine Br.f ?_ | refine ⟨rfl, ?_⟩)
  conv => whnf
  refine Br.mk (fun z => ?_) (fun z => ?_)
  · repeat ((conv => whnf); first | refine Br.t ?_ | refine Br.f ?_ | refine ⟨rfl, ?_⟩)
    conv => whnf
    refine CallW.mono (semawake.pure _ rfl rfl) ?_
    rintro r st' ⟨rfl, rfl⟩
    repeat ((conv => whnf); first | refine Br.t ?_ | refine Br.f ?_ | refine ⟨rfl, ?_⟩)
    conv => whnf
    refine fin (target := []) rfl (Nat.zero_le _) (by simp) rfl rfl
  repeat ((conv => whnf); first | refine Br.t ?_ | refine Br.f ?_ | refine ⟨rfl, ?_⟩)
  conv => whnf
  refine Br.mk (fun z2 => ?_) (fun z2 => ?_)
  · repeat ((conv => whnf); first | refine Br.t ?_ | refine Br.f ?_ | refine ⟨rfl, ?_⟩)
    conv => whnf
    refine CallW.mono (semawake.pure _ rfl rfl) ?_
    rintro r st' ⟨rfl, rfl⟩
    repeat ((conv => whnf); first | refine Br.t ?_ | refine Br.f ?_ | refine ⟨rfl, ?_⟩)
    conv => whnf
    refine fin (target := []) rfl (Nat.zero_le _) (by simp) rfl rfl
  have hll : l.length ≤ 300 := by simp at z2; omega
  repeat ((conv => whnf); first | refine Br.t ?_ | refine Br.f ?_ | refine ⟨rfl, ?_⟩)
  conv => whnf
  refine CallW.mono ((start_ok p hp0).pure _ rfl rfl) ?_
  rintro r st' ⟨rfl, rfl⟩
  repeat ((conv => whnf); first | refine Br.t ?_ | refine Br.f ?_ | refine ⟨rfl, ?_⟩)
  conv => whnf
  refine Br.mk (fun z3 => ?_) (fun z3 => ?_)
  · have h0 : ¬ (chk p).2.2 = 0 := by simpa using z3
    have es : startC p = cfgZ := by unfold startC; rw [if_neg h0]
    rw [es]
    repeat ((conv => whnf); first | refine Br.t ?_ | refine Br.f ?_ | refine ⟨rfl, ?_⟩)
    conv => whnf
    refine fin (target := []) rfl (Nat.zero_le _) (by simp) rfl rfl
  · have h0 : (chk p).2.2 = 0 := by simpa using z3
    have hp := chk_zero h0
    have es : startC p = cfg0 := by unfold startC; rw [if_pos h0]
    rw [es, h0]
    repeat ((conv => whnf); first | refine Br.t ?_ | refine Br.f ?_ | refine ⟨rfl, ?_⟩)
    conv => whnf
    refine loop_ok (α := Nat) (fun i => ⟨swS l w i, [pgB p, cfgB (runC p cfg0 (l.take i))]⟩)
      (fun i => i ≤ l.length) (fun i => l.length - i) 0 (Nat.zero_le _) (Le.slots (by simp [leS, mkS, swS])) (fun i hi => wpx_ok (own := own0) _ _ _ ?_)
    have hc : OkC p (runC p cfg0 (l.take i)) := runC_ok hp _ (cfg0_ok hp)
    obtain ⟨c, hcc⟩ : ∃ c, c = runC p cfg0 (l.take i) := ⟨_, rfl⟩
    rw [← hcc] at hc ⊢
    repeat ((conv => whnf); first | refine Br.t ?_ | refine Br.f ?_ | refine ⟨rfl, ?_⟩)
    conv => whnf
    refine Br.mk (fun g => ?_) (fun g => ?_)
    · have g : i < l.length := by simpa using g
      obtain ⟨x, hx⟩ : ∃ x, l[i]? = some x := ⟨_, List.getElem?_eq_getElem g⟩
      have ex : (l.map encP).getD (i : Int).toNat [] = encP x := by rw [Int.toNat_natCast]; simp [List.getD_eq_getElem?_getD, hx]
      have cs := semstep p hp c hc x.1 x.2
      have hrun := run_snoc p cfg0 l i x hx
      rw [← hcc] at hrun
      obtain ⟨d, hdd⟩ : ∃ d, d = stepC p c x.1 x.2 := ⟨_, rfl⟩
      rw [← hdd] at cs hrun
      repeat ((conv => whnf); first | refine Br.t ?_ | refine Br.f ?_ | refine ⟨rfl, ?_⟩)
      conv => whnf
      refine draw_ok (own := own0) [7] [] [(cfgV d, [pgB p, cfgB c])] rfl (by kernel_rfl) (Nat.zero_le _) ?_
      repeat ((conv => whnf); first | refine Br.t ?_ | refine Br.f ?_ | refine ⟨rfl, ?_⟩)
      conv => whnf
      rw [ex]
      refine ⟨⟨by omega, by simp; omega, rfl⟩, ?_⟩
      repeat ((conv => whnf); first | refine Br.t ?_ | refine Br.f ?_ | refine ⟨rfl, ?_⟩)
      conv => whnf
      refine ⟨cs.pure _ rfl rfl, ?_⟩
      repeat ((conv => whnf); first | refine Br.t ?_ | refine Br.f ?_ | refine ⟨rfl, ?_⟩)
      conv => whnf
      refine ⟨by repeat ((conv => whnf); first | exact trivial | refine ⟨rfl, ?_⟩), trivial, ?_⟩
      conv => whnf
      repeat ((conv => whnf); first | refine Br.t ?_ | refine Br.f ?_ | refine ⟨rfl, ?_⟩)
      conv => whnf
      refine ⟨i + 1, by omega, by omega, ?_⟩
      rw [hrun]
      refine Le.slots ?_
      simp [leS, mkS, swS]
      exact i64_id (by omega) (by omega)
    · have ew : (IntKind.i64.wrap (w : Int)).tmod 8 = ((w % 8 : Nat) : Int) := by rw [i64_id (by omega) (by omega)]; rfl
      obtain ⟨t, ht⟩ : ∃ t, t = w % 8 := ⟨_, rfl⟩
      rw [← ht] at ew
      repeat ((conv => whnf); first | refine Br.t ?_ | refine Br.f ?_ | refine ⟨rfl, ?_⟩)
      conv => whnf
      rw [ew]
      refine ⟨by decide, ?_⟩
      repeat ((conv => whnf); first | refine Br.t ?_ | refine Br.f ?_ | refine ⟨rfl, ?_⟩)
      conv => whnf
      have ca := at_ok p hp c hc (t : Int)
      have hway := way_step p c (t : Int)
      have c1 := semstep p hp c hc (t : Int) false
      have c2 := semstep p hp c hc (t : Int) true
      have hd : OkC p (stepC p c (t : Int) false) := stepC_ok hp hc _ _
      obtain ⟨a, ha⟩ : ∃ a, a = stepC p c (t : Int) false := ⟨_, rfl⟩
      obtain ⟨b, hb⟩ : ∃ b, b = stepC p c (t : Int) true := ⟨_, rfl⟩
      obtain ⟨y, hy⟩ : ∃ y, y = atN p c t := ⟨_, rfl⟩
      obtain ⟨q, hq⟩ : ∃ q, q = lives c (t : Int) := ⟨_, rfl⟩
      rw [← hy, ← hq] at ca hway
      rw [← ha] at c1 hway hd
      rw [← hb] at c2 hway
      have cs := same_refl p hp a hd
      refine CallW.mono (ca.pure _ rfl rfl) ?_
      rintro r st' ⟨rfl, rfl⟩
      repeat ((conv => whnf); first | refine Br.t ?_ | refine Br.f ?_ | refine ⟨rfl, ?_⟩)
      conv => whnf
      refine W.le ((Le.room0 17).trans (Le.room0 17)) ?_
      refine draw_bx (own := own0) rm8 [10, 11, 12, 13] [([], some 0, []), ([10], some 11, []), ([11], none, [pgB p, cfgB c, ndB' y] ++ [rm17, zeroB1]), ([10, 11], some 12, []), ([10, 11, 12], some 13, []), ([10, 11, 12, 13], some 14, [])]
        [(10, 0, 1), (11, 0, 2), (11, 1, 3), (10, 2, 3), (12, 3, 4), (13, 4, 5)]
        [(0, 0), (0, 1), (0, 2), (0, 3), (1, 0), (1, 1), (1, 2), (1, 3), (2, 0), (2, 1), (2, 2), (2, 3), (3, 0), (3, 1), (3, 2), (3, 3), (4, 0), (4, 1), (4, 2), (4, 3), (5, 0), (5, 1), (5, 2), (5, 3), (6, 0), (6, 1), (6, 2), (6, 3), (7, 0), (7, 1), (7, 2), (7, 3), (8, 0), (8, 1), (8, 2), (8, 3), (9, 0), (9, 1), (9, 2), (9, 3)] 5
        [(cfgV a, [pgB p, cfgB c, ndB' y, rm17, rm17]), (cfgV b, [pgB p, cfgB c, ndB' y, rm17, rm17])] rfl (by kernel_rfl) (by kernel_rfl) (Nat.zero_le _) ?_
      repeat ((conv => whnf); first | refine Br.t ?_ | refine Br.f ?_ | refine ⟨rfl, ?_⟩)
      conv => whnf
      refine ⟨c1.pure _ rfl rfl, ?_⟩
      repeat ((conv => whnf); first | refine Br.t ?_ | refine Br.f ?_ | refine ⟨rfl, ?_⟩)
      conv => whnf
      refine ⟨c2.pure _ rfl rfl, ?_⟩
      repeat ((conv => whnf); first | refine Br.t ?_ | refine Br.f ?_ | refine ⟨rfl, ?_⟩)
      conv => whnf
      refine ⟨by repeat ((conv => whnf); first | exact trivial | refine ⟨by (conv => whnf); first | exact ⟨rfl, rfl⟩ | exact ⟨rfl, rfl, rfl⟩, ?_⟩), ?_, ?_⟩
      · repeat ((conv => whnf); first | exact trivial | refine ⟨by (conv => whnf); first | exact ⟨rfl, rfl⟩ | exact ⟨rfl, rfl, rfl⟩ | exact c1.pure _ rfl rfl | exact c2.pure _ rfl rfl, ?_⟩)
      conv => whnf
      by_cases hh : q = true ∧ y.1 = 8 ∧ y.2.2.1 ≠ y.2.2.2
      · rw [hh.1]
        repeat ((conv => whnf); first | refine Br.t ?_ | refine Br.f ?_ | refine ⟨rfl, ?_⟩)
        conv => whnf
        refine Br.mk (fun _ => ?_) (fun h => by simp [hh.2.1] at h)
        repeat ((conv => whnf); first | refine Br.t ?_ | refine Br.f ?_ | refine ⟨rfl, ?_⟩)
        conv => whnf
        refine Br.mk (fun _ => ?_) (fun h => by simp at h; exact absurd h hh.2.2)
        repeat ((conv => whnf); first | refine Br.t ?_ | refine Br.f ?_ | refine ⟨rfl, ?_⟩)
        conv => whnf
        refine fin (target := []) rfl (Nat.zero_le _) (by simp) rfl rfl
      · have e := hway hh
        rw [← e]
        cases q with
        | false =>
          repeat ((conv => whnf); first | refine Br.t ?_ | refine Br.f ?_ | refine ⟨rfl, ?_⟩)
          conv => whnf
          refine CallW.mono (cs.pure _ rfl rfl) ?_
          rintro r st' ⟨rfl, rfl⟩
          repeat ((conv => whnf); first | refine Br.t ?_ | refine Br.f ?_ | refine ⟨rfl, ?_⟩)
          conv => whnf
          refine fin (target := []) rfl (Nat.zero_le _) (by simp) rfl rfl
        | true =>
          repeat ((conv => whnf); first | refine Br.t ?_ | refine Br.f ?_ | refine ⟨rfl, ?_⟩)
          conv => whnf
          refine Br.mk (fun h8 => ?_) (fun h8 => ?_)
          · repeat ((conv => whnf); first | refine Br.t ?_ | refine Br.f ?_ | refine ⟨rfl, ?_⟩)
            conv => whnf
            refine Br.mk (fun h => ?_) (fun h => ?_)
            · exact absurd ⟨rfl, by simpa using h8, by simpa using h⟩ hh
            · repeat ((conv => whnf); first | refine Br.t ?_ | refine Br.f ?_ | refine ⟨rfl, ?_⟩)
              conv => whnf
              refine CallW.mono (cs.pure _ rfl rfl) ?_
              rintro r st' ⟨rfl, rfl⟩
              repeat ((conv => whnf); first | refine Br.t ?_ | refine Br.f ?_ | refine ⟨rfl, ?_⟩)
              conv => whnf
              refine fin (target := []) rfl (Nat.zero_le _) (by simp) rfl rfl
          · repeat ((conv => whnf); first | refine Br.t ?_ | refine Br.f ?_ | refine ⟨rfl, ?_⟩)
            conv => whnf
            refine CallW.mono (cs.pure _ rfl rfl) ?_
            rintro r st' ⟨rfl, rfl⟩
            repeat ((conv => whnf); first | refine Br.t ?_ | refine Br.f ?_ | refine ⟨rfl, ?_⟩)
            conv => whnf
            refine fin (target := []) rfl (Nat.zero_le _) (by simp) rfl rfl
end Go.Proofs.Ytiikndppckjmhaa.Am
