/- The logic: a drawn region, done in the text's order. -/
import Derived.Test.YtdbmfnhbgacldaaDoorAmQ
namespace Go.Proofs.YtdbmfnhbgacldaaDoor.Am
set_option autoImplicit false
set_option linter.unusedVariables false
set_option linter.unusedSimpArgs false

/-- one operation; what calls hand back is told ahead -/
def opd (P : Program) (G : Gl) (own : Tmp → Bool) (o : Oper) (K : List (V × List Ob) → V → S → Prop) (res : List (V × List Ob)) (s : S) : Prop :=
  match o.op with
  | .call ⟨.value f, args, _⟩ => match ev G s.sl f with
    | .fn (.func fid) first captured => match res with
      | (r, st') :: res' => CallW P G fid (first ++ (args.toList.map (ev G s.sl) ++ captured)) s.st (fun r' st'' => r' = r ∧ st'' = st') ∧ fW r fun r => fS (s.put o.dst r st') (K res' r)
      | [] => False
    | _ => False
  | op => match opA P (match o.dst with | some d => own d | none => false) s.st (ev G s.sl) op with
    | some (p, v, st') => sdAnd p (fW v fun v => fS (s.put o.dst v st') (K res v))
    | none => False
def drawx (P : Program) (G : Gl) (own : Tmp → Bool) (ops : Array Oper) : List Oper → List (V × List Ob) → List (S × V) → (List (S × V) → S → Prop) → S → Prop
  | [], _, hist, K, s => K hist s
  | o :: rest, res, hist, K, s => match o.guard with
    | none => opd P G own o (fun res' v => drawx P G own ops rest res' ((s, v) :: hist) K) res s
    | some (j, want) => match guardA ops s.sl j with
      | some (d, some b) => Br b
          (fS (s.told d true) fun s => match want with | true => opd P G own o (fun res' v => drawx P G own ops rest res' ((s, v) :: hist) K) res s | false => fS (s.put o.dst (.tup []) s.st) (drawx P G own ops rest res ((s, .tup []) :: hist) K))
          (fS (s.told d false) fun s => match want with | true => fS (s.put o.dst (.tup []) s.st) (drawx P G own ops rest res ((s, .tup []) :: hist) K) | false => opd P G own o (fun res' v => drawx P G own ops rest res' ((s, v) :: hist) K) res s)
      | some (_, none) => fS (s.put o.dst (.tup []) s.st) (drawx P G own ops rest res ((s, .tup []) :: hist) K)
      | none => False
def trOf (hist : List (S × V)) (s : S) (j : Nat) : S := ((hist.map (·.1)) ++ [s]).getD j s
def vsOf (hist : List (S × V)) (j : Nat) : V := (hist.map (·.2)).getD j .undef
/-- who is no changer leaves the store: states on the way, the last one first -/
def sames (C : List Nat) : Nat → List (S × V) → S → Prop
  | _, [], _ => True
  | 0, _ :: _, _ => False
  | k + 1, (a, _) :: rest, s => match C.contains k with
    | true => sames C k rest a
    | false => s.st = a.st ∧ sames C k rest a
def chkL (P : Program) (G : Gl) (own : Tmp → Bool) (ops : Array Oper) (hist : List (S × V)) (s : S) : List (Nat × Nat) → Prop
  | [] => True
  | (k, r) :: L => (match ops[k]? with | some o => Doz P G own ops o ⟨(trOf hist s k).sl, (trOf hist s r).st⟩ (vsOf hist k) (trOf hist s r).st | none => True) ∧ chkL P G own ops hist s L

section
variable {P : Program} {G : Gl} {own : Tmp → Bool} {D : Nat → Prop}

theorem opd_ok {o : Oper} {K : List (V × List Ob) → V → S → Prop} {res : List (V × List Ob)} {s : S} (h : opd P G own o K res s) : ∃ v st' res', OpD P G own o s v st' ∧ K res' v (s.put o.dst v st') := by
  unfold opd at h
  split at h
  · rename_i f args ats ho
    split at h
    · rename_i fid first captured hf
      split at h
      · rename_i r st' res'
        rw [fW_eq, fS_eq] at h
        refine ⟨r, st', res', ?_, h.2⟩
        unfold OpD
        simp only [ho, hf]
        exact h.1
      · exact h.elim
    · exact h.elim
  · rename_i op hne
    split at h
    · rename_i p v st' hop
      obtain ⟨h1, h2⟩ := sdAnd_ok h
      rw [fW_eq, fS_eq] at h2
      refine ⟨v, st', res, ?_, h2⟩
      unfold OpD
      split
      · rename_i f args ats ho
        exact absurd ho (hne f args ats)
      · split
        · rename_i p2 v2 st2 hop2
          have e := hop2.symm.trans hop
          simp only [Option.some.injEq, Prod.mk.injEq] at e
          obtain ⟨rfl, rfl, rfl⟩ := e
          cases p2 with
          | none => exact ⟨rfl, rfl⟩
          | some p => exact ⟨h1 p rfl, rfl, rfl⟩
        · rename_i hop2
          have e := hop2.symm.trans hop
          cases e
    · exact h.elim

theorem trOf_old {hist : List (S × V)} {s s' : S} {v : V} {j : Nat} (h : j ≤ hist.length) : trOf (hist ++ [(s, v)]) s' j = trOf hist s j := by
  unfold trOf
  simp only [List.getD_eq_getElem?_getD, List.map_append, List.map_cons, List.map_nil]
  rw [List.getElem?_append_left (by simp; omega)]
  rw [List.getElem?_eq_getElem (by simp; omega)]
  rfl
theorem trOf_new {hist : List (S × V)} {s s' : S} {v : V} : trOf (hist ++ [(s, v)]) s' (hist.length + 1) = s' := by
  unfold trOf
  simp [List.getD_eq_getElem?_getD, List.getElem?_append_right]
theorem trOf_last {hist : List (S × V)} {s : S} : trOf hist s hist.length = s := by
  unfold trOf
  simp [List.getD_eq_getElem?_getD, List.getElem?_append_right]
theorem vsOf_old {hist : List (S × V)} {s : S} {v : V} {j : Nat} (h : j < hist.length) : vsOf (hist ++ [(s, v)]) j = vsOf hist j := by
  unfold vsOf
  simp only [List.getD_eq_getElem?_getD, List.map_append, List.map_cons, List.map_nil]
  rw [List.getElem?_append_left (by simp; omega)]
theorem vsOf_new {hist : List (S × V)} {s : S} {v : V} : vsOf (hist ++ [(s, v)]) hist.length = v := by
  unfold vsOf
  simp [List.getD_eq_getElem?_getD, List.getElem?_append_right]

def Valid (P : Program) (G : Gl) (own : Tmp → Bool) (ops : Array Oper) (hist : List (S × V)) (s : S) : Prop :=
  ∀ (j : Nat) (o : Oper), j < hist.length → ops[j]? = some o → Doz P G own ops o (trOf hist s j) (vsOf hist j) (trOf hist s (j + 1)).st ∧ trOf hist s (j + 1) = (trOf hist s j).put o.dst (vsOf hist j) (trOf hist s (j + 1)).st
theorem Valid.next {ops : Array Oper} {hist : List (S × V)} {s : S} {o : Oper} {v : V} {st' : List Ob} (h : Valid P G own ops hist s) (ho : ops[hist.length]? = some o) (hd : Doz P G own ops o s v st') : Valid P G own ops (hist ++ [(s, v)]) (s.put o.dst v st') := by
  intro j o' hj hoj
  rcases Nat.lt_or_ge j hist.length with hl | hl
  · rw [trOf_old (Nat.le_of_lt hl), trOf_old hl, vsOf_old hl]
    exact h j o' hl hoj
  · have : j = hist.length := by simp at hj; omega
    subst this
    rw [ho] at hoj; cases hoj
    rw [trOf_old (Nat.le_refl _), trOf_new, trOf_last, vsOf_new]
    exact ⟨by simpa [S.put] using hd, by simp [S.put]⟩
theorem told_eq {s : S} {ops : Array Oper} {j d : Nat} {b : Bool} (h : guardA ops s.sl j = some (d, some b)) : s.told d b = s := by
  unfold guardA at h
  split at h
  · rename_i d' hd
    split at h
    · rename_i b' hb
      cases h
      have hlt : d < s.sl.length := by
        rcases Nat.lt_or_ge d s.sl.length with h | h
        · exact h
        · simp [List.getD, h] at hb
      have hget := getD_get? (d := V.undef) hlt
      rw [hb] at hget
      obtain ⟨sl, st⟩ := s
      simp only [S.told, S.mk.injEq, and_true]
      apply List.ext_getElem?
      intro k
      by_cases hk : d = k
      · subst hk; rw [getElem?_set_eq' hlt]; exact hget.symm
      · rw [getElem?_set_ne' hk]
    · cases h
    · cases h
  · cases h

theorem drawx_tr {ops : Array Oper} {K : List (S × V) → S → Prop} : ∀ (l : List Oper) (res : List (V × List Ob)) (hist : List (S × V)) (s : S), ops.toList.drop hist.length = l → hist.length ≤ ops.size → Valid P G own ops hist.reverse s → drawx P G own ops l res hist K s →
    ∃ hist' s', hist'.length = ops.size ∧ trOf hist'.reverse s' 0 = trOf hist.reverse s 0 ∧ Valid P G own ops hist'.reverse s' ∧ K hist' s'
  | [], res, hist, s, hl, hle, hv, h => by
    refine ⟨hist, s, ?_, rfl, hv, h⟩
    have := congrArg List.length hl
    simp at this
    omega
  | o :: rest, res, hist, s, hl, hle, hv, h => by
    have hi : ops[hist.length]? = some o := by
      have : ops.toList[hist.length]? = some o := by
        have := congrArg (·[0]?) hl
        simpa [List.getElem?_drop] using this
      simpa using this
    have hlt : hist.length < ops.size := (Array.getElem?_eq_some_iff.1 hi).1
    have hl' : ∀ x : S × V, ops.toList.drop (x :: hist).length = rest := by
      intro x
      have := congrArg (List.drop 1) hl
      simpa [List.drop_drop, Nat.add_comm] using this
    have go : ∀ (res' : List (V × List Ob)) (v : V) (st' : List Ob), Doz P G own ops o s v st' → drawx P G own ops rest res' ((s, v) :: hist) K (s.put o.dst v st') →
        ∃ hist' s', hist'.length = ops.size ∧ trOf hist'.reverse s' 0 = trOf hist.reverse s 0 ∧ Valid P G own ops hist'.reverse s' ∧ K hist' s' := by
      intro res' v st' hd hx
      obtain ⟨hist', s', e1, e2, e3, e4⟩ := drawx_tr rest res' ((s, v) :: hist) _ (hl' _) (by simp; omega) (by rw [List.reverse_cons]; exact hv.next (by rw [List.length_reverse]; exact hi) hd) hx
      exact ⟨hist', s', e1, by rw [e2, List.reverse_cons, trOf_old (Nat.zero_le _)], e3, e4⟩
    simp only [drawx] at h
    cases hg : o.guard with
    | none =>
      simp only [hg] at h
      obtain ⟨v, st', res', h1, h2⟩ := opd_ok h
      exact go res' v st' (by unfold Doz; simp only [hg]; exact h1) h2
    | some jw =>
      obtain ⟨j, want⟩ := jw
      simp only [hg] at h
      split at h
      · rename_i d b hb
        have ht := told_eq hb
        have hx : if b = want then opd P G own o (fun res' v => drawx P G own ops rest res' ((s, v) :: hist) K) res s else drawx P G own ops rest res ((s, .tup []) :: hist) K (s.put o.dst (.tup []) s.st) := by
          cases b with
          | true =>
            have := h.yes rfl
            rw [fS_eq, ht] at this
            cases want with
            | true => simpa using this
            | false => simpa [fS_eq] using this
          | false =>
            have := h.no rfl
            rw [fS_eq, ht] at this
            cases want with
            | true => simpa [fS_eq] using this
            | false => simpa using this
        by_cases hbw : b = want
        · rw [if_pos hbw] at hx
          obtain ⟨v, st', res', h1, h2⟩ := opd_ok hx
          exact go res' v st' (by unfold Doz; simp only [hg, hb]; rw [if_pos (by rw [hbw])]; exact h1) h2
        · rw [if_neg hbw] at hx
          exact go res _ _ (by unfold Doz; simp only [hg, hb]; rw [if_neg (by simpa using hbw)]; exact ⟨trivial, trivial⟩) hx
      · rename_i d hb
        rw [fS_eq] at h
        exact go res _ _ (by unfold Doz; simp only [hg, hb]; rw [if_neg (by simp)]; exact ⟨trivial, trivial⟩) h
      · exact h.elim

theorem sames_ok {C : List Nat} : ∀ (hist : List (S × V)) (k : Nat) (s : S), k = hist.length → sames C k hist s → ∀ j, j < hist.length → j ∉ C → (trOf hist.reverse s (j + 1)).st = (trOf hist.reverse s j).st
  | [], k, s, _, h, j, hj, _ => by simp at hj
  | (a, v) :: rest, k, s, hk, h, j, hj, hn => by
    subst hk
    have tl : sames C rest.length rest a := by
      simp only [List.length_cons, sames] at h
      split at h
      · exact h
      · exact h.2
    rw [List.reverse_cons]
    rcases Nat.lt_or_ge j rest.length with hl | hl
    · rw [trOf_old (by simp; omega), trOf_old (by simp; omega)]
      exact sames_ok rest _ a rfl tl j hl hn
    · have hj' : j = rest.reverse.length := by simp at hj ⊢; omega
      subst hj'
      rw [trOf_new, trOf_old (Nat.le_refl _), trOf_last]
      simp only [List.length_cons, sames] at h
      split at h
      · rename_i hc; simp at hc; exact absurd hc (by simpa using hn)
      · exact h.1
theorem chkL_ok {ops : Array Oper} {hist : List (S × V)} {s : S} : ∀ {L : List (Nat × Nat)}, chkL P G own ops hist s L → ∀ (k r : Nat), (k, r) ∈ L → ∀ (o : Oper), ops[k]? = some o → Doz P G own ops o ⟨(trOf hist s k).sl, (trOf hist s r).st⟩ (vsOf hist k) (trOf hist s r).st
  | [], _, k, r, hm, _, _ => by simp at hm
  | (k0, r0) :: L, h, k, r, hm, o, ho => by
    simp only [chkL] at h
    rcases List.mem_cons.1 hm with e | hm
    · cases e
      have := h.1
      simpa only [ho] using this
    · exact chkL_ok h.2 k r hm o ho

/-- a drawn region, done in the text's order -/
theorem draw_okA {n : Nat} {ops : Array Oper} (C : List Nat) (L : List (Nat × Nat)) (res : List (V × List Ob)) {Q : Exit → S → Prop} {s : S} (ho : ordOK ops C L = true) (hn : n ≤ s.st.length)
    (h : drawx P G own ops ops.toList res [] (fun hist s' => sames C ops.size hist s' ∧ chkL P G own ops hist.reverse s' L ∧ Q .normal s') s) : WA P G n ops Q s := by
  obtain ⟨hist, s', e1, e2, e3, e4, e5, e6⟩ := drawx_tr ops.toList res [] s (by simp) (Nat.zero_le _) (fun j o hj => by simp at hj) h
  have e0 : trOf hist.reverse s' 0 = s := by rw [e2]; simp [trOf]
  have := any_orderA (tr := trOf hist.reverse s') (vs := vsOf hist.reverse) (n := n) (Q := Q) ho (fun k o hk => e3 k o (by rw [List.length_reverse, e1]; exact (Array.getElem?_eq_some_iff.1 hk).1) hk)
    (fun k hk hkC => sames_ok hist _ s' e1.symm e4 k (by omega) hkC) (chkL_ok e5) (by rw [← e1, ← List.length_reverse, trOf_last]; exact e6) (by rw [e0]; exact hn)
  rwa [e0] at this
theorem draw_ok {n id : Nat} {ops : Array Oper} (C : List Nat) (L : List (Nat × Nat)) (res : List (V × List Ob)) {Q : Exit → S → Prop} {s : S} (hm : P.follows .mixedOrders = true) (ho : ordOK ops C L = true) (hn : n ≤ s.st.length)
    (h : drawx P G own ops ops.toList res [] (fun hist s' => sames C ops.size hist s' ∧ chkL P G own ops hist.reverse s' L ∧ Q .normal s') s) : W P G n (.region id ops true) Q s := (draw_okA C L res ho hn h).w id hm
end
end Go.Proofs.YtdbmfnhbgacldaaDoor.Am
