/- Plain laws: who stands at an access, and who races. -/
import Derived.Test.YtiikndppckjmhaaRaB
import Derived.Test.YtiikndppckjmhaaSnE
namespace Go.Proofs.Ytiikndppckjmhaa.Am
set_option autoImplicit false
set_option linter.unusedVariables false
set_option linter.unusedSimpArgs false
def tcOf (p : Pg) (c : Cfg) (u : Nat) : Tc := (u, (atN p c u).2.1, decide ((atN p c u).1 = 2))
theorem touchL_succ (p : Pg) (c : Cfg) (t : Nat) : touchL p c (t + 1) = touchL p c t ++ if isAcc p c t = true then [tcOf p c t] else [] := rfl
theorem mem_touchL {p : Pg} {c : Cfg} {x : Tc} : ∀ {t : Nat}, x ∈ touchL p c t ↔ ∃ u, u < t ∧ isAcc p c u = true ∧ x = tcOf p c u
  | 0 => by simp [touchL]
  | t + 1 => by
    rw [touchL_succ, List.mem_append, mem_touchL]
    constructor
    · rintro (⟨u, h1, h2⟩ | h)
      · exact ⟨u, by omega, h2⟩
      · split at h
        · rename_i ha
          simp at h
          exact ⟨t, by omega, ha, h⟩
        · simp at h
    · rintro ⟨u, h1, h2, h3⟩
      by_cases hu : u = t
      · subst hu
        right
        rw [if_pos h2]
        simp [h3]
      · exact .inl ⟨u, by omega, h2, h3⟩
theorem touchL_pw (p : Pg) (c : Cfg) : ∀ t, (touchL p c t).Pairwise (fun x y => x.1 < y.1)
  | 0 => .nil
  | t + 1 => by
    rw [touchL_succ, List.pairwise_append]
    refine ⟨touchL_pw p c t, ?_, fun x hx y hy => ?_⟩
    · split
      · exact List.pairwise_singleton _ _
      · exact .nil
    · obtain ⟨u, h1, _, rfl⟩ := mem_touchL.1 hx
      split at hy
      · simp at hy; subst hy; exact h1
      · simp at hy
/-- the last one of a thread -/
def lastW (a : Int) (L : List Tc) : Option Tc := L.foldl (fun o x => if (x.1 : Int) = a then some x else o) none
theorem lastW_snoc (a : Int) (L : List Tc) (x : Tc) : lastW a (L ++ [x]) = if (x.1 : Int) = a then some x else lastW a L := by
  simp [lastW, List.foldl_append]
theorem lastW_touch (p : Pg) (c : Cfg) (a : Int) : ∀ t : Nat, lastW a (touchL p c t) = if 0 ≤ a ∧ a < t ∧ isAcc p c a.toNat = true then some (tcOf p c a.toNat) else none
  | 0 => by rw [if_neg (by omega)]; rfl
  | t + 1 => by
    rw [touchL_succ]
    by_cases ha : isAcc p c t = true
    · rw [if_pos ha, lastW_snoc]
      by_cases h : (t : Int) = a
      · subst h
        rw [if_pos (show ((tcOf p c t).1 : Int) = (t : Int) from rfl), if_pos ⟨by omega, by omega, by simpa using ha⟩]
        simp
      · rw [if_neg (show ¬ ((tcOf p c t).1 : Int) = a from h), lastW_touch p c a t]
        by_cases hq : 0 ≤ a ∧ a < t ∧ isAcc p c a.toNat = true
        · rw [if_pos hq, if_pos ⟨hq.1, by omega, hq.2.2⟩]
        · rw [if_neg hq, if_neg fun k => hq ⟨k.1, by omega, k.2.2⟩]
    · rw [if_neg ha, List.append_nil, lastW_touch p c a t]
      by_cases hq : 0 ≤ a ∧ a < t ∧ isAcc p c a.toNat = true
      · rw [if_pos hq, if_pos ⟨hq.1, by omega, hq.2.2⟩]
      · rw [if_neg hq, if_neg fun k => hq ⟨k.1, by
          have : a ≠ t := fun e => by subst e; exact ha (by simpa using k.2.2)
          omega, k.2.2⟩]
def pairB (L : List Tc) (a b g : Int) : Bool := match lastW a L, lastW b L with
  | some x, some y => agB x y && decide (x.2.1 = g)
  | _, _ => false
theorem agB_symm (x y : Tc) : agB x y = agB y x := by
  unfold agB
  rw [Bool.or_comm]
  congr 1
  · exact decide_eq_decide.2 ne_comm
  · congr 1
    exact decide_eq_decide.2 eq_comm
theorem agB_self (x : Tc) : agB x x = false := by simp [agB]
theorem agB_iff {x y : Tc} : agB x y = true ↔ x.1 ≠ y.1 ∧ x.2.1 = y.2.1 ∧ (x.2.2 = true ∨ y.2.2 = true) := by
  simp [agB]
theorem firstR_none : ∀ {L : List Tc}, firstR L = none → ∀ x ∈ L, ∀ y ∈ L, agB x y = false
  | [], _, x, hx, _, _ => by simp at hx
  | z :: r, h, x, hx, y, hy => by
    unfold firstR at h
    split at h
    · cases h
    · rename_i hf
      have hz : ∀ y ∈ r, agB z y = false := fun y hy => by
        have := List.find?_eq_none.1 hf y hy
        simpa using this
      have ih := firstR_none h
      rcases List.mem_cons.1 hx with ex | hx1
      · subst ex
        rcases List.mem_cons.1 hy with ey | hy1
        · subst ey; exact agB_self _
        · exact hz y hy1
      · rcases List.mem_cons.1 hy with ey | hy1
        · subst ey; rw [agB_symm]; exact hz x hx1
        · exact ih x hx1 y hy1
theorem firstR_some : ∀ {L : List Tc} {x y : Tc}, L.Pairwise (fun x y => x.1 < y.1) → firstR L = some (x, y) → x ∈ L ∧ y ∈ L ∧ agB x y = true ∧ x.1 < y.1
  | [], _, _, _, h => by cases h
  | z :: r, x, y, hp, h => by
    obtain ⟨h1, h2⟩ := List.pairwise_cons.1 hp
    unfold firstR at h
    split at h
    · rename_i w hf
      cases h
      have hm := List.mem_of_find?_eq_some hf
      exact ⟨by simp, by simp [hm], by simpa using List.find?_some hf, h1 _ hm⟩
    · obtain ⟨a, b, c, d⟩ := firstR_some h2 h
      exact ⟨by simp [a], by simp [b], c, d⟩
theorem firstR_of_none {L : List Tc} (h : ∀ x ∈ L, ∀ y ∈ L, agB x y = false) : firstR L = none := by
  induction L with
  | nil => rfl
  | cons z r ih =>
    unfold firstR
    have : r.find? (fun y => agB z y) = none := List.find?_eq_none.2 fun y hy => by rw [h z (by simp) y (by simp [hy])]; simp
    rw [this]
    exact ih fun x hx y hy => h x (by simp [hx]) y (by simp [hy])
theorem lastW_mem {p : Pg} {c : Cfg} {x : Tc} (h : x ∈ touches p c) : lastW (x.1 : Int) (touches p c) = some x := by
  obtain ⟨u, h1, h2, rfl⟩ := mem_touchL.1 h
  unfold touches
  rw [lastW_touch, if_pos ⟨by simp [tcOf], by simp [tcOf]; exact h1, by simpa [tcOf] using h2⟩]
  rfl
theorem lastW_mem' {p : Pg} {c : Cfg} {a : Int} {x : Tc} (h : lastW a (touches p c) = some x) : x ∈ touches p c ∧ (x.1 : Int) = a := by
  unfold touches at h
  rw [lastW_touch] at h
  split at h
  · rename_i hq
    cases h
    exact ⟨mem_touchL.2 ⟨a.toNat, by omega, hq.2.2, rfl⟩, by simp [tcOf]; omega⟩
  · cases h
theorem pairB_of {p : Pg} {c : Cfg} {x y : Tc} (hx : x ∈ touches p c) (hy : y ∈ touches p c) (h : agB x y = true) : pairB (touches p c) (x.1 : Int) (y.1 : Int) x.2.1 = true := by
  unfold pairB
  rw [lastW_mem hx, lastW_mem hy]
  simp [h]
theorem pairB_none {p : Pg} {c : Cfg} (h : firstR (touches p c) = none) (a b g : Int) : pairB (touches p c) a b g = false := by
  unfold pairB
  split
  · rename_i x y hx hy
    rw [firstR_none h x (lastW_mem' hx).1 y (lastW_mem' hy).1]
    rfl
  · rfl
theorem pairB_self {p : Pg} {c : Cfg} (a g : Int) : pairB (touches p c) a a g = false := by
  unfold pairB
  split
  · rename_i x y hx hy
    rw [hx] at hy
    cases hy
    rw [agB_self]
    rfl
  · rfl
theorem first_in_range {p : Pg} {c : Cfg} {x : Tc} (h : x ∈ touches p c) : x.1 < c.ths.length ∧ isAcc p c x.1 = true ∧ x = tcOf p c x.1 := by
  obtain ⟨u, h1, h2, rfl⟩ := mem_touchL.1 h
  exact ⟨h1, h2, rfl⟩
/-- what is told of a thread hangs on that thread alone -/
theorem same_at {p : Pg} {c d : Cfg} {u : Nat} (h : d.ths[u]? = c.ths[u]?) : lives d u = lives c u ∧ atN p d u = atN p c u := by
  have e : thAt d (u : Int) = thAt c (u : Int) := by simp [thAt, h]
  have e1 : lives d u = lives c u := by unfold lives; rw [e]
  refine ⟨e1, ?_⟩
  unfold atN ndAt
  rw [e, e1]
theorem same_tc {p : Pg} {c d : Cfg} {u : Nat} (h : d.ths[u]? = c.ths[u]?) : isAcc p d u = isAcc p c u ∧ tcOf p d u = tcOf p c u := by
  obtain ⟨h1, h2⟩ := same_at (p := p) h
  exact ⟨by unfold isAcc; rw [h1, h2], by unfold tcOf; rw [h2]⟩
theorem step_more {p : Pg} {c : Cfg} (who : Int) (way : Bool) {x : Tc} (hx : x ∈ touches p c) (hne : (x.1 : Int) ≠ who) : x ∈ touches p (stepC p c who way) := by
  obtain ⟨h1, h2, h3⟩ := first_in_range hx
  have ho := own_th (p := p) (c := c) who way h1 hne
  obtain ⟨e1, e2⟩ := same_tc (p := p) ho
  refine mem_touchL.2 ⟨x.1, ?_, by rw [e1]; exact h2, by rw [e2]; exact h3⟩
  have : (stepC p c who way).ths[x.1]? = some c.ths[x.1] := by rw [ho]; exact List.getElem?_eq_getElem h1
  exact lt_some this
end Go.Proofs.Ytiikndppckjmhaa.Am
