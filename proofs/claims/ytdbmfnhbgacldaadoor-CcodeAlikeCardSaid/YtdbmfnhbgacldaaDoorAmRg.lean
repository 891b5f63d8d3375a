/- The logic: what is read is read alike where rows have come to the store's end; drawn regions with new rows. -/
import Derived.Test.YtdbmfnhbgacldaaDoorAmR
namespace Go.Proofs.YtdbmfnhbgacldaaDoor.Am
set_option autoImplicit false
set_option linter.unusedVariables false
set_option linter.unusedSimpArgs false
section
variable {P : Program} {G : Gl} {own : Tmp → Bool} {st x : List Ob}
theorem get_grow {i : Nat} {o : Ob} (h : st[i]? = some o) : (st ++ x)[i]? = some o := by
  rw [List.getElem?_append_left (lt_of_get? h)]; exact h
theorem known_grow {v : V} (h : v.known st = true) : v.known (st ++ x) = true := by
  cases v <;> simp only [V.known] at h ⊢ <;> try exact h
  all_goals
    split at h
    · rename_i h1; rw [get_grow h1]; exact h
    · cases h
theorem loadA_grow {t : TypeId} {a : V} {r : Prop × V} (h : loadA P st t a = some r) : loadA P (st ++ x) t a = some r := by
  unfold loadA at h ⊢
  split at h
  · split at h
    · rename_i h1; rw [get_grow h1]; exact h
    · cases h
  · exact h
  · cases h
theorem fieldAddrA_grow {t : TypeId} {a : V} {f : Nat} {r : V} (h : fieldAddrA P st t a f = some r) : fieldAddrA P (st ++ x) t a f = some r := by
  unfold fieldAddrA at h ⊢
  split at h
  · split at h
    · rename_i hk; rw [if_pos ⟨hk.1, hk.2.1, known_grow hk.2.2⟩]; exact h
    · cases h
  · cases h
theorem indexAddrA_grow {t : TypeId} {a i : V} {r : Prop × V} (h : indexAddrA P st t a i = some r) : indexAddrA P (st ++ x) t a i = some r := by
  unfold indexAddrA at h ⊢
  split at h
  · split at h
    · split at h
      · rename_i h1; rw [if_pos h1]
        split at h
        · exact h
        · split at h
          · rename_i h2; rw [get_grow h2]; exact h
          · cases h
        · cases h
      · cases h
    · split at h
      · rename_i h1
        split at h
        · rename_i h2; rw [if_pos ⟨h2.1, known_grow h2.2⟩]; exact h
        · cases h
      · cases h
  · cases h
theorem sliceA_grow {t : TypeId} {a : V} {lo hi : Option V} {r : Prop × V} (h : sliceA P st t a lo hi = some r) : sliceA P (st ++ x) t a lo hi = some r := by
  unfold sliceA at h ⊢
  split at h
  · split at h
    · rename_i h1; rw [if_pos h1]
      split at h
      · exact h
      · exact h
      · split at h
        · rename_i h2; rw [get_grow h2]; exact h
        · cases h
      · cases h
    · cases h
  · exact h
theorem lenA_grow {t : TypeId} {a r : V} (h : lenA P st t a = some r) : lenA P (st ++ x) t a = some r := by
  unfold lenA at h ⊢
  split at h
  · exact h
  · exact h
  · exact h
  · split at h
    · rename_i h1; rw [if_pos ⟨h1.1, known_grow h1.2⟩]; exact h
    · cases h
  · exact h
  · cases h
theorem eqA_grow {t : TypeId} {a b : V} {r : Bool} (h : eqA P st t a b = some r) : eqA P (st ++ x) t a b = some r := by
  unfold eqA at h ⊢
  split at h <;> first
    | exact h
    | (split at h
       · rename_i h1; first | rw [if_pos ⟨h1.1, known_grow h1.2⟩]; exact h | (rw [if_pos h1]; exact h)
       · cases h)
    | cases h
theorem binA_grow {op : BinOp} {t : TypeId} {a b : V} {r : Option Prop × V} (h : binA P st op t a b = some r) : binA P (st ++ x) op t a b = some r := by
  unfold binA at h ⊢
  split at h
  · exact h
  · exact h
  · exact h
  · split at h
    · cases he : eqA P st t a b with
      | none => rw [he] at h; cases h
      | some q => rw [he] at h; rw [eqA_grow he]; exact h
    · cases he : eqA P st t a b with
      | none => rw [he] at h; cases h
      | some q => rw [he] at h; rw [eqA_grow he]; exact h
    · cases h
theorem nilCheckA_grow {a r : V} (h : nilCheckA st a = some r) : nilCheckA (st ++ x) a = some r := by
  unfold nilCheckA at h ⊢
  split at h
  · split at h
    · rename_i h1; rw [if_pos (known_grow h1)]; exact h
    · cases h
  · exact h
  · exact h
  · cases h
/-- operations that read alone -/
def rdOp : Op → Bool
  | .move _ | .assign _ | .pick _ _ _ | .load _ _ | .nilCheck _ | .binOp _ _ _ _ _ | .unOp _ _ _ | .slice _ _ _ _ none | .fieldAddr _ _ _ | .field _ _ _ | .indexAddr _ _ _ | .index _ _ _ | .extract _ _ => true
  | .call { callee := .builtin .len, args := _, argTypes := _ } => true
  | .call { callee := .builtin .max, args := _, argTypes := _ } => true
  | .call { callee := .builtin .min, args := _, argTypes := _ } => true
  | _ => false
theorem builtinA_grow {b : Builtin} (hb : b = .len ∨ b = .max ∨ b = .min) {ts : List TypeId} {xs : List V} {p : Option Prop} {v : V} {st' : List Ob} (h : builtinA P st b ts xs = some (p, v, st')) : st' = st ∧ builtinA P (st ++ x) b ts xs = some (p, v, st ++ x) := by
  unfold builtinA at h ⊢
  split at h
  · rcases hb with hb | hb | hb <;> cases hb
  · rename_i t y
    simp only [Option.map_eq_some_iff, Prod.mk.injEq] at h ⊢
    obtain ⟨r, h1, rfl, rfl, rfl⟩ := h
    exact ⟨rfl, _, lenA_grow h1, rfl, rfl, trivial⟩
  · simp only [Option.map_eq_some_iff, Prod.mk.injEq] at h ⊢
    obtain ⟨r, h1, rfl, rfl, rfl⟩ := h
    exact ⟨rfl, _, h1, rfl, rfl, trivial⟩
  · simp only [Option.map_eq_some_iff, Prod.mk.injEq] at h ⊢
    obtain ⟨r, h1, rfl, rfl, rfl⟩ := h
    exact ⟨rfl, _, h1, rfl, rfl, trivial⟩
  · cases h
theorem opA0_grow {ow : Bool} {ρ : Operand → V} {op : Op} (hr : rdOp op = true) {p : Option Prop} {v : V} {st' : List Ob} (h : opA0 P ow st ρ op = some (p, v, st')) : st' = st ∧ opA0 P ow (st ++ x) ρ op = some (p, v, st ++ x) := by
  cases op <;> simp only [rdOp, Bool.false_eq_true] at hr
  case move y => simp only [opA0, Option.some.injEq, Prod.mk.injEq] at h ⊢; exact ⟨h.2.2.symm, h.1, h.2.1, trivial⟩
  case assign y => simp only [opA0, Option.some.injEq, Prod.mk.injEq] at h ⊢; exact ⟨h.2.2.symm, h.1, h.2.1, trivial⟩
  case pick c a b =>
    simp only [opA0] at h ⊢
    split at h
    · rename_i h1
      simp only [Option.some.injEq, Prod.mk.injEq] at h ⊢; exact ⟨h.2.2.symm, h.1, h.2.1, trivial⟩
    · cases h
  case load t a =>
    simp only [opA0, Option.map_eq_some_iff, Prod.mk.injEq] at h ⊢
    obtain ⟨⟨a1, a2⟩, h1, rfl, rfl, rfl⟩ := h
    exact ⟨rfl, _, loadA_grow h1, rfl, rfl, trivial⟩
  case nilCheck a =>
    simp only [opA0, Option.map_eq_some_iff, Prod.mk.injEq] at h ⊢
    obtain ⟨a1, h1, rfl, rfl, rfl⟩ := h
    exact ⟨rfl, _, nilCheckA_grow h1, rfl, rfl, trivial⟩
  case binOp op t a b tt =>
    simp only [opA0, Option.map_eq_some_iff, Prod.mk.injEq] at h ⊢
    obtain ⟨⟨a1, a2⟩, h1, rfl, rfl, rfl⟩ := h
    exact ⟨rfl, _, binA_grow h1, rfl, rfl, trivial⟩
  case unOp op t a =>
    simp only [opA0, Option.map_eq_some_iff, Prod.mk.injEq] at h ⊢
    obtain ⟨a1, h1, rfl, rfl, rfl⟩ := h
    exact ⟨rfl, _, h1, rfl, rfl, trivial⟩
  case fieldAddr t a f =>
    simp only [opA0, Option.map_eq_some_iff, Prod.mk.injEq] at h ⊢
    obtain ⟨a1, h1, rfl, rfl, rfl⟩ := h
    exact ⟨rfl, _, fieldAddrA_grow h1, rfl, rfl, trivial⟩
  case field t a f =>
    simp only [opA0, Option.map_eq_some_iff, Prod.mk.injEq] at h ⊢
    obtain ⟨⟨a1, a2⟩, h1, rfl, rfl, rfl⟩ := h
    exact ⟨rfl, _, h1, rfl, rfl, trivial⟩
  case indexAddr t a i =>
    simp only [opA0, Option.map_eq_some_iff, Prod.mk.injEq] at h ⊢
    obtain ⟨⟨a1, a2⟩, h1, rfl, rfl, rfl⟩ := h
    exact ⟨rfl, _, indexAddrA_grow h1, rfl, rfl, trivial⟩
  case index t a i =>
    simp only [opA0, Option.map_eq_some_iff, Prod.mk.injEq] at h ⊢
    obtain ⟨⟨a1, a2⟩, h1, rfl, rfl, rfl⟩ := h
    exact ⟨rfl, _, h1, rfl, rfl, trivial⟩
  case extract a i =>
    simp only [opA0, Option.map_eq_some_iff, Prod.mk.injEq] at h ⊢
    obtain ⟨a1, h1, rfl, rfl, rfl⟩ := h
    exact ⟨rfl, _, h1, rfl, rfl, trivial⟩
  case slice t a lo hi m =>
    cases m with
    | none =>
      simp only [opA0, Option.map_eq_some_iff, Prod.mk.injEq] at h ⊢
      obtain ⟨⟨a1, a2⟩, h1, rfl, rfl, rfl⟩ := h
      exact ⟨rfl, _, sliceA_grow h1, rfl, rfl, trivial⟩
    | some m => simp at hr
  case call c =>
    obtain ⟨cl, args, ts⟩ := c
    cases cl with
    | value f => simp at hr
    | invoke r m => simp at hr
    | builtin b =>
      have hb : b = .len ∨ b = .max ∨ b = .min := by cases b <;> simp at hr ⊢
      simp only [opA0, Option.map_eq_some_iff, Prod.mk.injEq] at h ⊢
      obtain ⟨⟨a1, a2, a3⟩, h1, rfl, rfl, rfl⟩ := h
      obtain ⟨e1, e2⟩ := builtinA_grow (x := x) hb h1
      exact ⟨e1, _, e2, rfl, rfl⟩
theorem flatAt_grow {a : V} {r : Nat × Nat × Nat × Nat × Bool × List (List V)} (h : flatAt st a = some r) : flatAt (st ++ x) a = some r := by
  unfold flatAt at h ⊢
  split at h
  · split at h
    · rename_i h2; rw [get_grow h2]; exact h
    · cases h
  · cases h
theorem flatAt_same {id ver e j : Nat} (h : id < st.length) : flatAt (st ++ x) (.ptr id ver e j) = flatAt st (.ptr id ver e j) := by
  unfold flatAt
  simp only
  rw [List.getElem?_append_left h]
theorem flatAt_other {a : V} (h : ∀ id ver e j, a ≠ .ptr id ver e j) : flatAt st a = none := by
  unfold flatAt
  split
  · rename_i id ver e j; exact absurd rfl (h id ver e j)
  · rfl
theorem arrOpA_grow {ρ : Operand → V} {op : Op} (hr : rdOp op = true) {p : Option Prop} {v : V} {st' : List Ob} (h : arrOpA P st ρ op = some (p, v, st')) : st' = st ∧ arrOpA P (st ++ x) ρ op = some (p, v, st ++ x) := by
  cases op <;> simp only [rdOp, Bool.false_eq_true] at hr <;> try (simp [arrOpA] at h; done)
  case load t a =>
    simp only [arrOpA] at h ⊢
    split at h
    · rename_i hf
      rw [flatAt_grow hf]
      split at h
      · rename_i h2; cases h; simp only [h2]; exact ⟨trivial, trivial⟩
      · cases h
    · cases h
  case indexAddr t a i =>
    simp only [arrOpA] at h ⊢
    split at h
    · rename_i hf hi
      rw [flatAt_grow hf, hi]
      split at h
      · rename_i h2; cases h; simp only [h2]; exact ⟨trivial, trivial⟩
      · cases h
    · cases h
  case slice t a lo hi m =>
    cases m with
    | none =>
      simp only [arrOpA] at h ⊢
      split at h
      · rename_i hf
        rw [flatAt_grow hf]
        split at h
        · rename_i h2
          split at h
          · rename_i h3 h4; cases h; simp only [h2, h3, h4]; exact ⟨trivial, trivial⟩
          · cases h
        · cases h
      · cases h
    | some m => simp at hr
  case call c =>
    obtain ⟨cl, args, ts⟩ := c
    cases cl with
    | value f => simp at hr
    | invoke r m => simp at hr
    | builtin b => cases b <;> simp [arrOpA] at h hr
theorem ptr_lt_of_known {id ver e j : Nat} (h : (V.ptr id ver e j).known st = true) : id < st.length := by
  obtain ⟨_, _, _, hid⟩ := known_ptr h
  exact lt_of_get? hid
theorem arrOpA_none {ow : Bool} {ρ : Operand → V} {op : Op} (hr : rdOp op = true) (h0 : arrOpA P st ρ op = none) {r : Option Prop × V × List Ob} (h : opA0 P ow st ρ op = some r) : arrOpA P (st ++ x) ρ op = none := by
  cases op <;> simp only [rdOp, Bool.false_eq_true] at hr <;> try rfl
  case load t a =>
    have e : flatAt (st ++ x) (ρ a) = flatAt st (ρ a) := by
      by_cases hp : ∃ id ver e j, ρ a = .ptr id ver e j
      · obtain ⟨id, ver, e, j, hp⟩ := hp
        rw [hp]
        refine flatAt_same ?_
        simp only [opA0, hp, loadA, Option.map_eq_some_iff] at h
        obtain ⟨_, h1, _⟩ := h
        split at h1
        · rename_i h2; exact lt_of_get? h2
        · cases h1
      · have hne : ∀ id ver e j, ρ a ≠ .ptr id ver e j := fun id ver e j h => hp ⟨id, ver, e, j, h⟩
        rw [flatAt_other hne, flatAt_other hne]
    simp only [arrOpA, e] at h0 ⊢
    revert h0
    cases flatAt st (ρ a) with
    | none => intro _; rfl
    | some q =>
      obtain ⟨q1, q2, q3, q4, q5, q6⟩ := q
      cases flatA P t <;> simp
  case indexAddr t a i =>
    have e : flatAt (st ++ x) (ρ a) = flatAt st (ρ a) := by
      by_cases hp : ∃ id ver e j, ρ a = .ptr id ver e j
      · obtain ⟨id, ver, e, j, hp⟩ := hp
        rw [hp]
        refine flatAt_same ?_
        simp only [opA0, hp, Option.map_eq_some_iff] at h
        obtain ⟨_, h1, _⟩ := h
        unfold indexAddrA at h1
        split at h1
        · split at h1
          · split at h1 <;> cases h1
          · split at h1
            · split at h1
              · rename_i hc; exact ptr_lt_of_known hc.2
              · cases h1
            · cases h1
        · cases h1
      · have hne : ∀ id ver e j, ρ a ≠ .ptr id ver e j := fun id ver e j h => hp ⟨id, ver, e, j, h⟩
        rw [flatAt_other hne, flatAt_other hne]
    simp only [arrOpA, e] at h0 ⊢
    revert h0
    cases flatAt st (ρ a) with
    | none => intro _; rfl
    | some q =>
      obtain ⟨q1, q2, q3, q4, q5, q6⟩ := q
      cases flatA P t with
      | none => intro _; simp only; split <;> rfl
      | some n =>
        simp only
        split
        · intro h; cases h
        · intro _; rfl
  case slice t a lo hi m =>
    cases m with
    | some m => simp at hr
    | none =>
      have hne : ∀ id ver e j, ρ a ≠ .ptr id ver e j := by
        intro id ver e j hp
        simp only [opA0, hp, Option.map_eq_some_iff] at h
        obtain ⟨_, h1, _⟩ := h
        unfold sliceA at h1
        split at h1
        · split at h1 <;> cases h1
        · split at h1 <;> cases h1
      simp only [arrOpA, flatAt_other hne]
  case call c =>
    obtain ⟨cl, args, ts⟩ := c
    cases cl with
    | value f => rfl
    | invoke r m => rfl
    | builtin b => cases b <;> first | rfl | simp at hr
theorem opA_grow {ow : Bool} {ρ : Operand → V} {op : Op} (hr : rdOp op = true) {p : Option Prop} {v : V} {st' : List Ob} (h : opA P ow st ρ op = some (p, v, st')) : st' = st ∧ opA P ow (st ++ x) ρ op = some (p, v, st ++ x) := by
  unfold opA at h ⊢
  cases ha : arrOpA P st ρ op with
  | some r =>
    rw [ha] at h
    cases h
    obtain ⟨h1, h2⟩ := arrOpA_grow (x := x) hr ha
    rw [h2]
    exact ⟨h1, rfl⟩
  | none =>
    rw [ha] at h
    rw [arrOpA_none hr ha h]
    exact opA0_grow hr h
theorem OpD.grow {o : Oper} (hr : rdOp o.op = true) {sl : List V} {v : V} {st' : List Ob} (h : OpD P G own o ⟨sl, st⟩ v st') : st' = st ∧ OpD P G own o ⟨sl, st ++ x⟩ v (st ++ x) := by
  unfold OpD at h ⊢
  split at h
  · rename_i f args ts ho
    rw [ho] at hr; simp [rdOp] at hr
  · rename_i hne
    split at h
    · rename_i p v' st'' hop
      obtain ⟨e1, e2⟩ := opA_grow (x := x) hr hop
      have hst : st' = st := by
        cases p with
        | none => exact h.2.symm.trans e1
        | some p => exact h.2.2.symm.trans e1
      refine ⟨hst, ?_⟩
      split
      · rename_i p2 v2 st2 h2
        rw [e2] at h2
        cases h2
        cases p with
        | none => exact ⟨h.1, rfl⟩
        | some p => exact ⟨h.1, h.2.1, rfl⟩
      · rename_i h2
        rw [e2] at h2
        cases h2
    · exact h.elim
theorem Doz.grow {ops : Array Oper} {o : Oper} (hr : rdOp o.op = true) {sl : List V} {v : V} (h : Doz P G own ops o ⟨sl, st⟩ v st) : Doz P G own ops o ⟨sl, st ++ x⟩ v (st ++ x) := by
  unfold Doz at h ⊢
  split at h
  · exact (OpD.grow (x := x) hr h).2
  · split at h
    · rename_i b hb
      simp only [hb]
      split at h
      · rename_i hw; rw [if_pos hw]; exact (OpD.grow (x := x) hr h).2
      · rename_i hw; rw [if_neg hw]; exact ⟨h.1, trivial⟩
    · exact h.elim
/-- pairs whose later store has new rows alone -/
def growsL (hist : List (S × V)) (s : S) : List (Nat × Nat) → Prop
  | [] => True
  | (k, r) :: L => (∃ x, (trOf hist s r).st = (trOf hist s k).st ++ x) ∧ growsL hist s L
theorem growsL_ok {hist : List (S × V)} {s : S} : ∀ {L : List (Nat × Nat)}, growsL hist s L → ∀ k r, (k, r) ∈ L → ∃ x, (trOf hist s r).st = (trOf hist s k).st ++ x
  | [], _, k, r, hm => by simp at hm
  | (k', r') :: L, h, k, r, hm => by
    simp only [List.mem_cons] at hm
    rcases hm with hm | hm
    · cases hm; exact h.1
    · exact growsL_ok h.2 k r hm
def rdsOK (ops : Array Oper) (C : List Nat) (L : List (Nat × Nat)) : Bool := L.all fun (k, _) => !C.contains k && match ops[k]? with | some o => rdOp o.op | none => true
/-- a drawn region; pairs Lg: operations that read alone, and new rows -/
theorem draw_okG {n id : Nat} {ops : Array Oper} (C : List Nat) (L Lg : List (Nat × Nat)) (res : List (V × List Ob)) {Q : Exit → S → Prop} {s : S} (hm : P.follows .mixedOrders = true) (ho : ordOK ops C (L ++ Lg) = true) (hrd : rdsOK ops C Lg = true) (hn : n ≤ s.st.length)
    (h : drawx P G own ops ops.toList res [] (fun hist s' => sames C ops.size hist s' ∧ chkL P G own ops hist.reverse s' L ∧ growsL hist.reverse s' Lg ∧ Q .normal s') s) : W P G n (.region id ops true) Q s := by
  obtain ⟨hist, s', e1, e2, e3, e4, e5, e6, e7⟩ := drawx_tr ops.toList res [] s (by simp) (Nat.zero_le _) (fun j o hj => by simp at hj) h
  have e0 : trOf hist.reverse s' 0 = s := by rw [e2]; simp [trOf]
  have hall : ∀ (k : Nat) (o : Oper), ops[k]? = some o → Doz P G own ops o (trOf hist.reverse s' k) (vsOf hist.reverse k) (trOf hist.reverse s' (k + 1)).st ∧ trOf hist.reverse s' (k + 1) = (trOf hist.reverse s' k).put o.dst (vsOf hist.reverse k) (trOf hist.reverse s' (k + 1)).st :=
    fun k o hk => e3 k o (by rw [List.length_reverse, e1]; exact (Array.getElem?_eq_some_iff.1 hk).1) hk
  have hsame : ∀ k, k < ops.size → k ∉ C → (trOf hist.reverse s' (k + 1)).st = (trOf hist.reverse s' k).st := fun k hk hkC => sames_ok hist _ s' e1.symm e4 k (by omega) hkC
  have := any_order (tr := trOf hist.reverse s') (vs := vsOf hist.reverse) (id := id) (n := n) (Q := Q) hm ho hall hsame
    (fun k r hkr o hk => by
      rcases List.mem_append.1 hkr with hkr | hkr
      · exact chkL_ok e5 k r hkr o hk
      · obtain ⟨x, hx⟩ := growsL_ok e6 k r hkr
        have hb := List.all_eq_true.1 hrd (k, r) hkr
        simp only [hk, Bool.and_eq_true, Bool.not_eq_true'] at hb
        have hkC : k ∉ C := fun hc => by have h2 := List.contains_iff_mem.2 hc; rw [hb.1] at h2; cases h2
        have hd := (hall k o hk).1
        rw [hsame k (Array.getElem?_eq_some_iff.1 hk).1 hkC] at hd
        rw [hx]
        exact Doz.grow hb.2 hd) (by rw [← e1, ← List.length_reverse, trOf_last]; exact e7) (by rw [e0]; exact hn)
  rwa [e0] at this
end
end Go.Proofs.YtdbmfnhbgacldaaDoor.Am
