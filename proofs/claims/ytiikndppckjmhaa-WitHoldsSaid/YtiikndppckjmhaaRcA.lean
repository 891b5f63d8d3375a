/- Contracts: the document's word on which nodes may be. -/
import Derived.Test.YtiikndppckjmhaaPrD
namespace Go.Proofs.Ytiikndppckjmhaa.Am
set_option autoImplicit false
set_option linter.unusedVariables false
set_option linter.unusedSimpArgs false
set_option maxRecDepth 10000
set_option pp.maxSteps 3000
set_option pp.proofs false
def sizeR (p : Pg) (c : Nat) (z : Int) : Int := if c = 103 then p.g else if c = 108 then p.l else if c = 115 then p.s else if c = 102 then p.fs.length else if c = 110 then mx1 z else 1
theorem refsize (p : Pg) (c : Nat) (z : Int) : CallW Try.prog G0 101 [pgV p, .i (.int .u8 c), .i (.int .i64 z)] [] (fun r st' => r = .i (.int .i64 (sizeR p c z)) ∧ st' = []) := by
  refine call_of_bodyF 0 (Nat.le_refl _) Try.func101 rfl (fun a w => Try.call101 a w) (wpx_ok (own := own0) _ _ _ ?_)
  unfold sizeR
  repeat ((conv => whnf); first | refine Br.t ?_ | refine Br.f ?_ | refine ⟨rfl, ?_⟩)
  conv => whnf
  refine Br.mk (fun h => ?_) (fun h => ?_)
  · have h : c = 103 := by simp at h; omega
    subst h
    repeat ((conv => whnf); first | refine Br.t ?_ | refine Br.f ?_ | refine ⟨rfl, ?_⟩)
    conv => whnf
    refine fin (target := []) rfl (Nat.zero_le _) (by simp) rfl rfl
  · have h : ¬ c = 103 := by simp at h; omega
    rw [if_neg h]
    repeat ((conv => whnf); first | refine Br.t ?_ | refine Br.f ?_ | refine ⟨rfl, ?_⟩)
    conv => whnf
    refine Br.mk (fun h => ?_) (fun h => ?_)
    · have h : c = 108 := by simp at h; omega
      subst h
      repeat ((conv => whnf); first | refine Br.t ?_ | refine Br.f ?_ | refine ⟨rfl, ?_⟩)
      conv => whnf
      refine fin (target := []) rfl (Nat.zero_le _) (by simp) rfl rfl
    · have h : ¬ c = 108 := by simp at h; omega
      rw [if_neg h]
      repeat ((conv => whnf); first | refine Br.t ?_ | refine Br.f ?_ | refine ⟨rfl, ?_⟩)
      conv => whnf
      refine Br.mk (fun h => ?_) (fun h => ?_)
      · have h : c = 115 := by simp at h; omega
        subst h
        repeat ((conv => whnf); first | refine Br.t ?_ | refine Br.f ?_ | refine ⟨rfl, ?_⟩)
        conv => whnf
        refine fin (target := []) rfl (Nat.zero_le _) (by simp) rfl rfl
      · have h : ¬ c = 115 := by simp at h; omega
        rw [if_neg h]
        repeat ((conv => whnf); first | refine Br.t ?_ | refine Br.f ?_ | refine ⟨rfl, ?_⟩)
        conv => whnf
        refine Br.mk (fun h => ?_) (fun h => ?_)
        · have h : c = 102 := by simp at h; omega
          subst h
          repeat ((conv => whnf); first | refine Br.t ?_ | refine Br.f ?_ | refine ⟨rfl, ?_⟩)
          conv => whnf
          refine fin (target := []) rfl (Nat.zero_le _) (by simp) ?_ rfl
          simp
        · have h : ¬ c = 102 := by simp at h; omega
          rw [if_neg h]
          repeat ((conv => whnf); first | refine Br.t ?_ | refine Br.f ?_ | refine ⟨rfl, ?_⟩)
          conv => whnf
          refine Br.mk (fun h => ?_) (fun h => ?_)
          · have h : c = 110 := by simp at h; omega
            subst h
            repeat ((conv => whnf); first | refine Br.t ?_ | refine Br.f ?_ | refine ⟨rfl, ?_⟩)
            conv => whnf
            refine fin (target := []) rfl (Nat.zero_le _) (by simp) rfl rfl
          · have h : ¬ c = 110 := by simp at h; omega
            rw [if_neg h]
            repeat ((conv => whnf); first | refine Br.t ?_ | refine Br.f ?_ | refine ⟨rfl, ?_⟩)
            conv => whnf
            refine fin (target := []) rfl (Nat.zero_le _) (by simp) rfl rfl
/-- a row's letters -/
def rowR (k : Int) : List UInt8 := if k = 0 then [45, 110, 45] else if k = 1 ∨ k = 2 then [103, 110, 45] else if k = 3 ∨ k = 4 then [108, 110, 45] else if k = 5 then [102, 110, 115] else if k = 6 then [115, 110, 45] else
  if k = 7 then [102, 110, 45] else if k = 8 then [45, 110, 110] else if k = 9 then [45, 45, 45] else []
theorem kind10 {k : Int} (h0 : 0 ≤ k) (h9 : k ≤ 9) : k = 0 ∨ k = 1 ∨ k = 2 ∨ k = 3 ∨ k = 4 ∨ k = 5 ∨ k = 6 ∨ k = 7 ∨ k = 8 ∨ k = 9 := by omega
theorem rowR_none {k : Int} (h : k < 0 ∨ 9 < k) : rowR k = [] := by
  unfold rowR
  repeat' rw [if_neg (by omega)]
theorem refrow (k : Int) : CallW Try.prog G0 100 [.i (.int .i64 k)] [] (fun r st' => r = .i (.str ⟨(rowR k).toArray⟩) ∧ st' = []) := by
  refine call_of_bodyF 0 (Nat.le_refl _) Try.func100 rfl (fun a w => Try.call100 a w) (wpx_ok (own := own0) _ _ _ ?_)
  repeat ((conv => whnf); first | refine Br.t ?_ | refine Br.f ?_ | refine ⟨rfl, ?_⟩)
  conv => whnf
  refine Br.mk (fun h => ?_) (fun h => ?_)
  · have h : k < 0 := by simpa using h
    rw [rowR_none (.inl h)]
    repeat ((conv => whnf); first | refine Br.t ?_ | refine Br.f ?_ | refine ⟨rfl, ?_⟩)
    conv => whnf
    refine fin (target := []) rfl (Nat.zero_le _) (by simp) rfl rfl
  · have h : 0 ≤ k := by simpa using h
    repeat ((conv => whnf); first | refine Br.t ?_ | refine Br.f ?_ | refine ⟨rfl, ?_⟩)
    conv => whnf
    refine Br.mk (fun h9 => ?_) (fun h9 => ?_)
    · have h9 : 9 < k := by simpa using h9
      rw [rowR_none (.inr h9)]
      repeat ((conv => whnf); first | refine Br.t ?_ | refine Br.f ?_ | refine ⟨rfl, ?_⟩)
      conv => whnf
      refine fin (target := []) rfl (Nat.zero_le _) (by simp) rfl rfl
    · have h9 : k ≤ 9 := by simpa using h9
      repeat ((conv => whnf); first | refine Br.t ?_ | refine Br.f ?_ | refine ⟨rfl, ?_⟩)
      conv => whnf
      rcases kind10 h h9 with rfl | rfl | rfl | rfl | rfl | rfl | rfl | rfl | rfl | rfl
      all_goals
        refine ⟨⟨by omega, by simp, rfl⟩, ?_⟩
        repeat ((conv => whnf); first | refine Br.t ?_ | refine Br.f ?_ | refine ⟨rfl, ?_⟩)
        conv => whnf
        refine fin (target := []) rfl (Nat.zero_le _) (by simp) rfl rfl
/-- from a field on -/
def mayG (p : Pg) (z : Int) : List (Int × UInt8) → Bool
  | [] => true
  | (v, c) :: r => if v < 0 ∨ sizeR p c.toNat z ≤ v then false else mayG p z r
theorem mayG_ok (p : Pg) (k a x y z : Int) {c0 c1 c2 : UInt8} (h : rowR k = [c0, c1, c2]) : mayG p z [(a, c0), (x, c1), (y, c2)] = mayF p (k, a, x, y) z := by
  have hk : 0 ≤ k ∧ k ≤ 9 := by
    by_cases h1 : k < 0 ∨ 9 < k
    · rw [rowR_none h1] at h; cases h
    · omega
  rcases kind10 hk.1 hk.2 with rfl | rfl | rfl | rfl | rfl | rfl | rfl | rfl | rfl | rfl <;>
  · simp [rowR] at h
    obtain ⟨rfl, rfl, rfl⟩ := h
    rw [Bool.eq_iff_iff]
    simp [mayG, mayF, fieldsF, sizeR, inB, mx1]
    (repeat' split) <;> omega
theorem may_none (p : Pg) (k a x y z : Int) (h : k < 0 ∨ 9 < k) : mayF p (k, a, x, y) z = false := by
  have : (fieldsF p k z).2.2.2 = false := by
    unfold fieldsF
    repeat' rw [if_neg (by omega)]
  unfold mayF
  simp [this]
def mayS (p : Pg) (k a x y z : Int) (c0 c1 c2 : UInt8) (i : Int) : List V := mkS 46 [(2, .i (.int .i64 z)), (3, .ptr 0 0 0 0), (4, .ptr 1 0 0 0), (7, .i (.str ⟨#[c0, c1, c2]⟩)), (8, .i (.sl [[.int .i64 a], [.int .i64 x], [.int .i64 y]])), (9, .i (.int .i64 i))]
theorem drop3 {i : Nat} (h : i < 3) {α : Type} (a b c : α) : ∃ x, [a, b, c].drop i = x :: [a, b, c].drop (i + 1) ∧ [a, b, c][i]? = some x := by
  rcases i with _ | _ | _ | i
  · exact ⟨a, rfl, rfl⟩
  · exact ⟨b, rfl, rfl⟩
  · exact ⟨c, rfl, rfl⟩
  · omega
set_option maxHeartbeats 1000000 in
theorem refmay (p : Pg) (n : Nd) (z : Int) : CallW Try.prog G0 71 [pgV p, ndV n, .i (.int .i64 z)] [] (fun r st' => r = .i (.bool (mayF p n z)) ∧ st' = []) := by
  refine call_of_bodyF 0 (Nat.le_refl _) Try.func71 rfl (fun a w => Try.call71 a w) (wpx_ok (own := own0) _ _ _ ?_)
  obtain ⟨k, a, x, y⟩ := n
  repeat ((conv => whnf); first | refine Br.t ?_ | refine Br.f ?_ | refine ⟨rfl, ?_⟩)
  conv => whnf
  refine CallW.mono ((refrow k).pure _ rfl rfl) ?_
  rintro r st' ⟨rfl, rfl⟩
  by_cases hk : k < 0 ∨ 9 < k
  · rw [may_none p k a x y z hk, rowR_none hk]
    repeat ((conv => whnf); first | refine Br.t ?_ | refine Br.f ?_ | refine ⟨rfl, ?_⟩)
    conv => whnf
    refine fin (target := []) rfl (Nat.zero_le _) (by simp) rfl rfl
  · obtain ⟨c0, c1, c2, hr⟩ : ∃ c0 c1 c2, rowR k = [c0, c1, c2] := by
      rcases kind10 (k := k) (by omega) (by omega) with rfl | rfl | rfl | rfl | rfl | rfl | rfl | rfl | rfl | rfl <;> exact ⟨_, _, _, rfl⟩
    rw [← mayG_ok p k a x y z hr, hr]
    obtain ⟨R, hR⟩ : ∃ R, R = mayG p z [(a, c0), (x, c1), (y, c2)] := ⟨_, rfl⟩
    rw [← hR]
    repeat ((conv => whnf); first | refine Br.t ?_ | refine Br.f ?_ | refine ⟨rfl, ?_⟩)
    conv => whnf
    refine loop_ok (α := Nat) (fun i => ⟨mayS p k a x y z c0 c1 c2 i, [pgB p, .row 0 4 false [[.i (.int .i64 k), .i (.int .i64 a), .i (.int .i64 x), .i (.int .i64 y)]]]⟩)
      (fun i => i ≤ 3 ∧ mayG p z ([(a, c0), (x, c1), (y, c2)].drop i) = R) (fun i => 3 - i) 0 ⟨Nat.zero_le _, hR.symm⟩
      (Le.slots (by simp [leS, mkS, mayS])) (fun i hi => wpx_ok (own := own0) _ _ _ ?_)
    obtain ⟨h1, h2⟩ := hi
    repeat ((conv => whnf); first | refine Br.t ?_ | refine Br.f ?_ | refine ⟨rfl, ?_⟩)
    conv => whnf
    refine Br.mk (fun g => ?_) (fun g => ?_)
    · have g : i < 3 := by simp at g; omega
      obtain ⟨⟨v, c⟩, hd, hg⟩ := drop3 g (a, c0) (x, c1) (y, c2)
      have hv : [a, x, y][i]? = some v ∧ [c0, c1, c2][i]? = some c := by
        rcases i with _ | _ | _ | i
        · simp at hg ⊢; exact hg
        · simp at hg ⊢; exact hg
        · simp at hg ⊢; exact hg
        · omega
      have ec : (#[c0, c1, c2] : Array UInt8).getD (i : Int).toNat 0 = c := by
        rw [Int.toNat_natCast, Array.getD_eq_getD_getElem?]
        simpa using congrArg (Option.getD · 0) hv.2
      have ev' : ([[I.int .i64 a], [.int .i64 x], [.int .i64 y]] : List (List I)).getD (i : Int).toNat [] = [.int .i64 v] := by
        rw [Int.toNat_natCast]
        rcases i with _ | _ | _ | i
        · simp at hv; simp [hv.1]
        · simp at hv; simp [hv.1]
        · simp at hv; simp [hv.1]
        · omega
      rw [hd, mayG] at h2
      refine draw_ok (own := own0) [] [] [(.i (.int .i64 (sizeR p c.toNat z)), [pgB p, .row 0 4 false [[.i (.int .i64 k), .i (.int .i64 a), .i (.int .i64 x), .i (.int .i64 y)]]])] rfl (by kernel_rfl) (Nat.zero_le _) ?_
      repeat ((conv => whnf); first | refine Br.t ?_ | refine Br.f ?_ | refine ⟨rfl, ?_⟩)
      conv => whnf
      refine ⟨⟨by omega, by show (i : Int) < 3; omega⟩, ?_⟩
      repeat ((conv => whnf); first | refine Br.t ?_ | refine Br.f ?_ | refine ⟨rfl, ?_⟩)
      conv => whnf
      refine ⟨by rw [ec]; exact (refsize p c.toNat z).pure _ rfl rfl, ?_⟩
      repeat ((conv => whnf); first | refine Br.t ?_ | refine Br.f ?_ | refine ⟨rfl, ?_⟩)
      conv => whnf
      refine ⟨by repeat ((conv => whnf); first | exact trivial | refine ⟨rfl, ?_⟩), trivial, ?_⟩
      conv => whnf
      rw [ev']
      refine ⟨⟨by omega, by simp; omega, rfl⟩, ?_⟩
      repeat ((conv => whnf); first | refine Br.t ?_ | refine Br.f ?_ | refine ⟨rfl, ?_⟩)
      conv => whnf
      refine Br.mk (fun g1 => ?_) (fun g1 => ?_)
      · have g1 : v < 0 := by simpa using g1
        rw [if_pos (.inl g1)] at h2
        subst h2
        repeat ((conv => whnf); first | refine Br.t ?_ | refine Br.f ?_ | refine ⟨rfl, ?_⟩)
        conv => whnf
        refine fin (target := []) rfl (Nat.zero_le _) (by simp) rfl rfl
      · have g1 : 0 ≤ v := by simpa using g1
        repeat ((conv => whnf); first | refine Br.t ?_ | refine Br.f ?_ | refine ⟨rfl, ?_⟩)
        conv => whnf
        rw [ev']
        refine ⟨⟨by omega, by simp; omega, rfl⟩, ?_⟩
        repeat ((conv => whnf); first | refine Br.t ?_ | refine Br.f ?_ | refine ⟨rfl, ?_⟩)
        conv => whnf
        refine Br.mk (fun g2 => ?_) (fun g2 => ?_)
        · have g2 : sizeR p c.toNat z ≤ v := by simpa using g2
          rw [if_pos (.inr g2)] at h2
          subst h2
          repeat ((conv => whnf); first | refine Br.t ?_ | refine Br.f ?_ | refine ⟨rfl, ?_⟩)
          conv => whnf
          refine fin (target := []) rfl (Nat.zero_le _) (by simp) rfl rfl
        · have g2 : v < sizeR p c.toNat z := by simpa using g2
          rw [if_neg (by omega)] at h2
          repeat ((conv => whnf); first | refine Br.t ?_ | refine Br.f ?_ | refine ⟨rfl, ?_⟩)
          conv => whnf
          refine ⟨i + 1, ⟨by omega, h2⟩, by omega, Le.back (fun _ => 0) (by intro id hid; rfl) (by simp) rfl ?_ ?_ ?_⟩
          · intro o ho
            simp only [List.mem_cons, List.not_mem_nil, or_false] at ho
            rcases ho with rfl | rfl
            · exact pgB_cl p _
            · intro cs hcs; simp only [List.mem_singleton] at hcs; subst hcs; rfl
          · simp [leS, mkS, V.up, mayS]
            exact i64_id (by omega) (by omega)
          · rfl
    · have g : i = 3 := by simp at g; omega
      subst g
      rw [show [(a, c0), (x, c1), (y, c2)].drop 3 = [] from rfl, mayG] at h2
      subst h2
      repeat ((conv => whnf); first | refine Br.t ?_ | refine Br.f ?_ | refine ⟨rfl, ?_⟩)
      conv => whnf
      refine fin (target := []) rfl (Nat.zero_le _) (by simp) rfl rfl
end Go.Proofs.Ytiikndppckjmhaa.Am
