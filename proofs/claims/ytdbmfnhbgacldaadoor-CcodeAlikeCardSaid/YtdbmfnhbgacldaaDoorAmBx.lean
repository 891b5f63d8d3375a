/- The logic: drawn regions whose boxes take rooms of their own, in whatever order they are made. -/
import Derived.Test.YtdbmfnhbgacldaaDoorAmW
namespace Go.Proofs.YtdbmfnhbgacldaaDoor.Am
set_option autoImplicit false
set_option linter.unusedVariables false
set_option linter.unusedSimpArgs false
/-- a box in an empty row -/
def allocR (P : Program) (st : List Ob) (d : Nat) (t : TypeId) : Option (V × List Ob) := match st[d]? with
  | some (.row 0 sz false []) => match zeroA P t with
    | some zs => match Nat.beq sz zs.length with | true => some (.ptr d 1 0 0, st.set d (.row 1 sz false [zs])) | false => none
    | none => none
  | _ => none
section
variable {P : Program} {D : Nat → Prop} {μ : Mu} {st : List Ob} {w : World}
theorem boxedR_ok (hs : srel D μ st w) {d : Nat} {zs : List V} {z : Value} {T : TypeId} {sem : Sem Value} (hd : st[d]? = some (.row 0 zs.length false [])) (hr : sem.run P w = .ok (.pointer (some ⟨w.heap.size, 0, none⟩)) (w.alloc (.cells z.cells T))) (hz : vrels μ st (qd D μ st w) w zs z.cells) :
    Does P D μ st w sem (.ptr d 1 0 0) (st.set d (.row 1 zs.length false [zs])) := by
  obtain ⟨r1, r2, r3, r4⟩ := move_row (T := T) (lo := 0) (hi := 0) (ver' := 1) (es' := [zs]) (cur := z.cells) hs hd (Grow.alloc w (.cells z.cells T)) (by decide) (Nat.le_refl _) (heap_alloc_new w _) rfl (by rw [hz.1]; simp) (fun i cs h => by rw [(one_row rfl h).2]) (.inl rfl)
    (fun i cs j v h hj hk => by obtain ⟨rfl, rfl⟩ := one_row rfl h; exact hk _ _ (by simpa using hz.2 j v hj))
  have hl := lt_of_get? hd
  refine ⟨_, _, _, hr, .ptr ⟨by simpa using hl, fun v' s' r' e' h' => ?_⟩, r1, r2, r3⟩
  rw [getElem?_set_eq' hl] at h'; cases h'
  exact ⟨Nat.le_refl _, fun _ => ⟨by simp, w.heap.size, z.cells.size, upd_same _ _ _, by simp⟩⟩
theorem allocR_ok (hs : srel D μ st w) {d : Nat} {t : TypeId} {v : V} {st' : List Ob} (h : allocR P st d t = some (v, st')) : Does P D μ st w (Instr.alloc t true (.tuple #[])) v st' := by
  unfold allocR at h
  split at h
  · rename_i sz hd
    split at h
    · rename_i zs hz
      split at h
      · rename_i hb
        have hb := Nat.eq_of_beq_eq_true hb
        subst hb
        simp only [Option.some.injEq, Prod.mk.injEq] at h
        obtain ⟨rfl, rfl⟩ := h
        unfold zeroA at hz
        cases hi : P.info? t with
        | none => simp [hi] at hz
        | some i =>
          simp only [hi, Option.map_eq_some_iff] at hz
          obtain ⟨z, hz1, rfl⟩ := hz
          exact boxedR_ok (z := z) (T := t) hs hd (by simp [Instr.alloc, zeroValue, typeInfo, hi, hz1, newVar, newRow]) (zero_ok z.cells)
      · cases h
    · cases h
  · cases h
/-- an empty row of version 0 -/
theorem Le.room0 {n : Nat} (sz : Nat) {sl : List V} {st : List Ob} : Le n ⟨sl, st⟩ ⟨sl, st ++ [.row 0 sz false []]⟩ := by
  intro D μ a w hn hr
  obtain ⟨r1, r2, r3, r4⟩ := new_row 0 hr.st (Grow.refl w) (x := none) (sz' := sz) (es' := []) (.inl ⟨rfl, rfl⟩)
  exact ⟨_, ⟨hr.dfr, ⟨hr.sl.1, fun j v hj => r4 _ _ (hr.sl.2 j v hj)⟩, r1⟩, r2, r3.mono hn⟩
end
def opAR (P : Program) (own : Tmp → Bool) (rm : Tmp → Option Nat) (st : List Ob) (ρ : Operand → V) (o : Oper) : Option (Option Prop × V × List Ob) :=
  match o.dst with
  | some x => match o.op with
    | .alloc t => match rm x with
      | some d => match allocR P st d t with | some (v, st') => some (none, v, st') | none => none
      | none => opA P (own x) st ρ (.alloc t)
    | op => opA P (own x) st ρ op
  | none => opA P false st ρ o.op
/-- one operation that hands back v and leaves the store st', whatever follows -/
def OpR (P : Program) (G : Gl) (own : Tmp → Bool) (rm : Tmp → Option Nat) (o : Oper) (s : S) (v : V) (st' : List Ob) : Prop :=
  match o.op with
  | .call ⟨.value f, args, _⟩ => match ev G s.sl f with
    | .fn (.func fid) first captured => CallW P G fid (first ++ (args.toList.map (ev G s.sl) ++ captured)) s.st (fun r st'' => r = v ∧ st'' = st')
    | _ => False
  | op => match opAR P own rm s.st (ev G s.sl) o with
    | some (p, v', st'') => sdAnd p (v' = v ∧ st'' = st')
    | none => False
/-- the same, as its guard says -/
def DozR (P : Program) (G : Gl) (own : Tmp → Bool) (rm : Tmp → Option Nat) (ops : Array Oper) (o : Oper) (s : S) (v : V) (st' : List Ob) : Prop :=
  match o.guard with
  | none => OpR P G own rm o s v st'
  | some (j, want) => match guardA ops s.sl j with
    | some (_, b) => if b = some want then OpR P G own rm o s v st' else v = .tup [] ∧ st' = s.st
    | none => False

/-- one operation; what calls hand back is told ahead -/
def opdR (P : Program) (G : Gl) (own : Tmp → Bool) (rm : Tmp → Option Nat) (o : Oper) (K : List (V × List Ob) → V → S → Prop) (res : List (V × List Ob)) (s : S) : Prop :=
  match o.op with
  | .call ⟨.value f, args, _⟩ => match ev G s.sl f with
    | .fn (.func fid) first captured => match res with
      | (r, st') :: res' => CallW P G fid (first ++ (args.toList.map (ev G s.sl) ++ captured)) s.st (fun r' st'' => r' = r ∧ st'' = st') ∧ fW r fun r => fS (s.put o.dst r st') (K res' r)
      | [] => False
    | _ => False
  | op => match opAR P own rm s.st (ev G s.sl) o with
    | some (p, v, st') => sdAnd p (fW v fun v => fS (s.put o.dst v st') (K res v))
    | none => False
def drawxR (P : Program) (G : Gl) (own : Tmp → Bool) (rm : Tmp → Option Nat) (ops : Array Oper) : List Oper → List (V × List Ob) → List (S × V) → (List (S × V) → S → Prop) → S → Prop
  | [], _, hist, K, s => K hist s
  | o :: rest, res, hist, K, s => match o.guard with
    | none => opdR P G own rm o (fun res' v => drawxR P G own rm ops rest res' ((s, v) :: hist) K) res s
    | some (j, want) => match guardA ops s.sl j with
      | some (d, some b) => Br b
          (fS (s.told d true) fun s => match want with | true => opdR P G own rm o (fun res' v => drawxR P G own rm ops rest res' ((s, v) :: hist) K) res s | false => fS (s.put o.dst (.tup []) s.st) (drawxR P G own rm ops rest res ((s, .tup []) :: hist) K))
          (fS (s.told d false) fun s => match want with | true => fS (s.put o.dst (.tup []) s.st) (drawxR P G own rm ops rest res ((s, .tup []) :: hist) K) | false => opdR P G own rm o (fun res' v => drawxR P G own rm ops rest res' ((s, v) :: hist) K) res s)
      | some (_, none) => fS (s.put o.dst (.tup []) s.st) (drawxR P G own rm ops rest res ((s, .tup []) :: hist) K)
      | none => False
section
variable {P : Program} {G : Gl} {own : Tmp → Bool} {rm : Tmp → Option Nat} {D : Nat → Prop}
theorem opAR_cases {st : List Ob} {ρ : Operand → V} {o : Oper} {r : Option (Option Prop × V × List Ob)} (h : opAR P own rm st ρ o = r) : opA P (match o.dst with | some d => own d | none => false) st ρ o.op = r ∨ ∃ d t, o.op = .alloc t ∧ (match allocR P st d t with | some (v, st') => some (none, v, st') | none => none) = r := by
  unfold opAR at h
  split at h
  · rename_i x hx
    split at h
    · rename_i t ht
      split at h
      · exact .inr ⟨_, t, ht, h⟩
      · exact .inl (by rw [ht]; exact h)
    · exact .inl h
  · rename_i hx
    exact .inl h
theorem opAR_congr {st : List Ob} {ρ ρ' : Operand → V} {o : Oper} (h : ∀ x ∈ o.op.operands, ρ x = ρ' x) : opAR P own rm st ρ o = opAR P own rm st ρ' o := by
  unfold opAR
  split
  · split
    · rename_i t ht
      split
      · rfl
      · exact opA_congr _ (fun x hx => h x (by rw [ht]; exact hx))
    · exact opA_congr _ h
  · exact opA_congr _ h
theorem OpR.cases {o : Oper} {s : S} {v : V} {st' : List Ob} (h : OpR P G own rm o s v st') : OpD P G own o s v st' ∨ ∃ d t, o.op = .alloc t ∧ allocR P s.st d t = some (v, st') := by
  unfold OpR at h
  unfold OpD
  split at h
  · rename_i f args ts ho
    left
    simp only [ho]
    exact h
  · rename_i hne
    split at h
    · rename_i p v' st'' hop
      rcases opAR_cases hop with h1 | ⟨d, t, h1, h2⟩
      · left
        split
        · rename_i f args ats ho
          exact absurd ho (hne f args ats)
        · split
          · rename_i p2 v2 st2 hop2
            have e := hop2.symm.trans h1
            cases e
            exact h
          · rename_i hop2
            have e := hop2.symm.trans h1
            cases e
      · right
        refine ⟨d, t, h1, ?_⟩
        split at h2
        · rename_i h3
          cases h2
          obtain ⟨rfl, rfl⟩ := h
          exact h3
        · cases h2
    · exact h.elim
theorem OpR.congr {ops : Array Oper} {o : Oper} {sl sl2 : List V} {st st' : List Ob} {v : V} (hc : ∀ t ∈ o.looksAt ops, sl.getD t .undef = sl2.getD t .undef) (h : OpR P G own rm o ⟨sl, st⟩ v st') : OpR P G own rm o ⟨sl2, st⟩ v st' := by
  have he : ∀ x ∈ o.op.operands, ev G sl x = ev G sl2 x := fun x hx => ev_congr fun t ht => hc t (by
    subst ht
    simp only [Oper.looksAt, List.mem_append]
    exact .inl (List.mem_filterMap.2 ⟨_, by simpa using hx, rfl⟩))
  have heq : OpR P G own rm o ⟨sl, st⟩ v st' = OpR P G own rm o ⟨sl2, st⟩ v st' := by
    unfold OpR
    have he0 := he
    generalize o.op = op at he ⊢
    split
    · rename_i f args ats
      have hf := he f (by simp [Op.operands, Call.operands])
      have ha : args.toList.map (ev G sl) = args.toList.map (ev G sl2) := List.map_congr_left fun x hx => he x (by
        simp only [Op.operands, Call.operands]
        simp at hx
        simp [hx])
      simp only [hf, ha]
    · simp only [opAR_congr (o := o) he0]
  exact heq ▸ h
theorem DozR.congr {ops : Array Oper} {o : Oper} {sl sl2 : List V} {st st' : List Ob} {v : V} (hc : ∀ t ∈ o.looksAt ops, sl.getD t .undef = sl2.getD t .undef) (h : DozR P G own rm ops o ⟨sl, st⟩ v st') : DozR P G own rm ops o ⟨sl2, st⟩ v st' := by
  unfold DozR at h ⊢
  cases hg : o.guard with
  | none => simp only [hg] at h ⊢; exact h.congr hc
  | some jw =>
    obtain ⟨j, want⟩ := jw
    simp only [hg] at h ⊢
    rw [← guardA_congr (sl := sl) fun d hd => hc d (by simp [Oper.looksAt, hg, hd])]
    split at h
    · split at h
      · rename_i hb; rw [if_pos hb]; exact h.congr hc
      · rename_i hb; rw [if_neg hb]; exact h
    · exact h.elim

theorem DozR.step {n : Nat} {ops : Array Oper} {i : Nat} {o : Oper} {s : S} {v : V} {st' : List Ob} (hi : ops[i]? = some o) (h : DozR P G own rm ops o s v st') {μ : Mu} {a : Act} {w : World} (hn : n ≤ s.st.length) (hg : GOk D G μ s.st w) (hr : Rel D μ s a w)
    {Q : Exit → Act → World → Prop} {K : Act → World → Prop} (hK : ∀ μ' a' w', GOk D G μ' st' w' → Rel D μ' (s.put o.dst v st') a' w' → Fr μ s.st w μ' st' w' → Ev s.st.length μ s.st μ' st' → K a' w') : wpOp P ops Q i K a w := by
  unfold wpOp
  simp only [hi]
  have doit : OpR P G own rm o s v st' → o.wp P a w K Q := fun hR => by
   rcases hR.cases with hx | ⟨d, t, ho, ha⟩
   case inr =>
    have h1 : Op1 P D μ s.st w (execOp (a.eval ·) o) v st' := by
      unfold execOp
      rw [ho]
      exact Op1.of (allocR_ok (P := P) hr.st ha)
    obtain ⟨y, μ', w', h2, h3, h4, h5, h6⟩ := h1
    unfold Oper.wp
    rcases h2 with h2 | ⟨h2, rfl⟩
    · rw [h2]; exact hK μ' _ w' (hg.keep h5) (hr.put h3 h4 h5 h6 o.dst) h5 h6
    · rw [h2]; exact hK μ' _ w' (hg.keep h5) (hr.put h3 h4 h5 h6 o.dst) h5 h6
   case inl =>
    exact Oper.wp_mono (fun a' w' ⟨s', μ', e, h1, h2, h3, h4⟩ => by
    subst e
    exact hK μ' a' w' (by simpa [S.put] using h1) h2 (by simpa [S.put] using h3) (by simpa [S.put] using h4)) (opx_ok hx.opx hn hg hr)
  unfold DozR at h
  cases hgd : o.guard with
  | none =>
    simp only [hgd] at h
    rw [if_pos (by simp [Region.wanted, hgd])]
    exact .inl (doit h)
  | some jw =>
    obtain ⟨j, want⟩ := jw
    simp only [hgd] at h
    split at h
    · rename_i d b hb
      obtain ⟨hy, _⟩ := yielded_eq hr hb
      split at h
      · rename_i hbw
        rw [if_pos (by simp [Region.wanted, hgd, hy, hbw])]
        exact .inl (doit h)
      · rename_i hbw
        rw [if_neg (by simp [Region.wanted, hgd, hy, hbw])]
        obtain ⟨rfl, rfl⟩ := h
        exact hK μ _ w hg (hr.skip o.dst) (Fr.refl _ _ _) (Ev.refl (Nat.le_refl _))
    · exact h.elim

theorem opdR_ok {o : Oper} {K : List (V × List Ob) → V → S → Prop} {res : List (V × List Ob)} {s : S} (h : opdR P G own rm o K res s) : ∃ v st' res', OpR P G own rm o s v st' ∧ K res' v (s.put o.dst v st') := by
  unfold opdR at h
  split at h
  · rename_i f args ats ho
    split at h
    · rename_i fid first captured hf
      split at h
      · rename_i r st' res'
        rw [fW_eq, fS_eq] at h
        refine ⟨r, st', res', ?_, h.2⟩
        unfold OpR
        simp only [ho, hf]
        exact h.1
      · exact h.elim
    · exact h.elim
  · rename_i op hne
    split at h
    · rename_i p v st' hop
      obtain ⟨h1, h2⟩ := sdAnd_ok h
      rw [fW_eq, fS_eq] at h2
      refine ⟨v, st', res, ?_, h2⟩
      unfold OpR
      split
      · rename_i f args ats ho
        exact absurd ho (hne f args ats)
      · split
        · rename_i p2 v2 st2 hop2
          have e := hop2.symm.trans hop
          simp only [Option.some.injEq, Prod.mk.injEq] at e
          obtain ⟨rfl, rfl, rfl⟩ := e
          cases p2 with
          | none => exact ⟨rfl, rfl⟩
          | some p => exact ⟨h1 p rfl, rfl, rfl⟩
        · rename_i hop2
          have e := hop2.symm.trans hop
          cases e
    · exact h.elim

def ValidR (P : Program) (G : Gl) (own : Tmp → Bool) (rm : Tmp → Option Nat) (ops : Array Oper) (hist : List (S × V)) (s : S) : Prop :=
  ∀ (j : Nat) (o : Oper), j < hist.length → ops[j]? = some o → DozR P G own rm ops o (trOf hist s j) (vsOf hist j) (trOf hist s (j + 1)).st ∧ trOf hist s (j + 1) = (trOf hist s j).put o.dst (vsOf hist j) (trOf hist s (j + 1)).st
theorem ValidR.next {ops : Array Oper} {hist : List (S × V)} {s : S} {o : Oper} {v : V} {st' : List Ob} (h : ValidR P G own rm ops hist s) (ho : ops[hist.length]? = some o) (hd : DozR P G own rm ops o s v st') : ValidR P G own rm ops (hist ++ [(s, v)]) (s.put o.dst v st') := by
  intro j o' hj hoj
  rcases Nat.lt_or_ge j hist.length with hl | hl
  · rw [trOf_old (Nat.le_of_lt hl), trOf_old hl, vsOf_old hl]
    exact h j o' hl hoj
  · have : j = hist.length := by simp at hj; omega
    subst this
    rw [ho] at hoj; cases hoj
    rw [trOf_old (Nat.le_refl _), trOf_new, trOf_last, vsOf_new]
    exact ⟨by simpa [S.put] using hd, by simp [S.put]⟩
theorem drawxR_tr {ops : Array Oper} {K : List (S × V) → S → Prop} : ∀ (l : List Oper) (res : List (V × List Ob)) (hist : List (S × V)) (s : S), ops.toList.drop hist.length = l → hist.length ≤ ops.size → ValidR P G own rm ops hist.reverse s → drawxR P G own rm ops l res hist K s →
    ∃ hist' s', hist'.length = ops.size ∧ trOf hist'.reverse s' 0 = trOf hist.reverse s 0 ∧ ValidR P G own rm ops hist'.reverse s' ∧ K hist' s'
  | [], res, hist, s, hl, hle, hv, h => by
    refine ⟨hist, s, ?_, rfl, hv, h⟩
    have := congrArg List.length hl
    simp at this
    omega
  | o :: rest, res, hist, s, hl, hle, hv, h => by
    have hi : ops[hist.length]? = some o := by
      have : ops.toList[hist.length]? = some o := by
        have := congrArg (·[0]?) hl
        simpa [List.getElem?_drop] using this
      simpa using this
    have hlt : hist.length < ops.size := (Array.getElem?_eq_some_iff.1 hi).1
    have hl' : ∀ x : S × V, ops.toList.drop (x :: hist).length = rest := by
      intro x
      have := congrArg (List.drop 1) hl
      simpa [List.drop_drop, Nat.add_comm] using this
    have go : ∀ (res' : List (V × List Ob)) (v : V) (st' : List Ob), DozR P G own rm ops o s v st' → drawxR P G own rm ops rest res' ((s, v) :: hist) K (s.put o.dst v st') →
        ∃ hist' s', hist'.length = ops.size ∧ trOf hist'.reverse s' 0 = trOf hist.reverse s 0 ∧ ValidR P G own rm ops hist'.reverse s' ∧ K hist' s' := by
      intro res' v st' hd hx
      obtain ⟨hist', s', e1, e2, e3, e4⟩ := drawxR_tr rest res' ((s, v) :: hist) _ (hl' _) (by simp; omega) (by rw [List.reverse_cons]; exact hv.next (by rw [List.length_reverse]; exact hi) hd) hx
      exact ⟨hist', s', e1, by rw [e2, List.reverse_cons, trOf_old (Nat.zero_le _)], e3, e4⟩
    simp only [drawxR] at h
    cases hg : o.guard with
    | none =>
      simp only [hg] at h
      obtain ⟨v, st', res', h1, h2⟩ := opdR_ok h
      exact go res' v st' (by unfold DozR; simp only [hg]; exact h1) h2
    | some jw =>
      obtain ⟨j, want⟩ := jw
      simp only [hg] at h
      split at h
      · rename_i d b hb
        have ht := told_eq hb
        have hx : if b = want then opdR P G own rm o (fun res' v => drawxR P G own rm ops rest res' ((s, v) :: hist) K) res s else drawxR P G own rm ops rest res ((s, .tup []) :: hist) K (s.put o.dst (.tup []) s.st) := by
          cases b with
          | true =>
            have := h.yes rfl
            rw [fS_eq, ht] at this
            cases want with
            | true => simpa using this
            | false => simpa [fS_eq] using this
          | false =>
            have := h.no rfl
            rw [fS_eq, ht] at this
            cases want with
            | true => simpa [fS_eq] using this
            | false => simpa using this
        by_cases hbw : b = want
        · rw [if_pos hbw] at hx
          obtain ⟨v, st', res', h1, h2⟩ := opdR_ok hx
          exact go res' v st' (by unfold DozR; simp only [hg, hb]; rw [if_pos (by rw [hbw])]; exact h1) h2
        · rw [if_neg hbw] at hx
          exact go res _ _ (by unfold DozR; simp only [hg, hb]; rw [if_neg (by simpa using hbw)]; exact ⟨trivial, trivial⟩) hx
      · rename_i d hb
        rw [fS_eq] at h
        exact go res _ _ (by unfold DozR; simp only [hg, hb]; rw [if_neg (by simp)]; exact ⟨trivial, trivial⟩) h
      · exact h.elim

theorem any_orderR {n id : Nat} {ops : Array Oper} {C : List Nat} (hm : P.follows .mixedOrders = true) (ho : ordP ops C = true) {R : Type} (don : R → Nat → Bool) (σ : R → List Ob) (r0 : R) {tr : Nat → S} {vs : Nat → V}
    (htr : ∀ (k : Nat) (o : Oper), ops[k]? = some o → tr (k + 1) = (tr k).put o.dst (vs k) (tr (k + 1)).st)
    (h0 : σ r0 = (tr 0).st) (hd0 : ∀ c ∈ C, don r0 c = false)
    (hC : ∀ (k : Nat) (o : Oper), ops[k]? = some o → k ∈ C → ∀ r, don r k = false → (∀ c ∈ C, c ≠ k → aft (befs ops.toList) k c = true → don r c = true) → (∀ c ∈ C, aft (befs ops.toList) c k = true → don r c = false) → ∃ r', (∀ c ∈ C, don r' c = (c == k || don r c)) ∧ DozR P G own rm ops o ⟨(tr k).sl, σ r⟩ (vs k) (σ r'))
    (hR : ∀ (k : Nat) (o : Oper), ops[k]? = some o → k ∉ C → ∀ r, (∀ c ∈ C, aft (befs ops.toList) k c = true → don r c = true) → (∀ c ∈ C, aft (befs ops.toList) c k = true → don r c = false) → DozR P G own rm ops o ⟨(tr k).sl, σ r⟩ (vs k) (σ r))
    (hend : ∀ r, (∀ c ∈ C, don r c = true) → σ r = (tr ops.size).st)
    {Q : Exit → S → Prop} (hQ : Q .normal (tr ops.size)) (hn : n ≤ (tr 0).st.length) : W P G n (.region id ops true) Q (tr 0) := by
  simp only [ordP, Bool.and_eq_true] at ho
  obtain ⟨⟨⟨o1, o2⟩, o3⟩, o6⟩ := ho
  have down : ∀ (k : Nat) (o : Oper) (e : Edge), ops[k]? = some o → e ∈ o.after → Region.binds .any e = true → e.on < k := by
    intro k o e hk he hb
    have hlt : k < ops.size := (Array.getElem?_eq_some_iff.1 hk).1
    have := all_range o1 hlt
    simp only [hk, List.all_eq_true] at this
    have := this e (by simpa using he)
    simpa [hb] using this
  have dstEq : ∀ (k : Nat) (o : Oper), ops[k]? = some o → dstOf ops k = o.dst := fun k o hk => by simp [dstOf, hk]
  have dist : ∀ (k j : Nat) (o o' : Oper) (d : Tmp), ops[k]? = some o → ops[j]? = some o' → o.dst = some d → o'.dst = some d → k = j := by
    intro k j o o' d hk hj hd hd'
    have hlt : k < ops.size := (Array.getElem?_eq_some_iff.1 hk).1
    have hlt' : j < ops.size := (Array.getElem?_eq_some_iff.1 hj).1
    have := all_range (all_range o2 hlt) hlt'
    simp [dstEq k o hk, dstEq j o' hj, hd, hd'] at this
    exact this.symm
  have data : ∀ (k : Nat) (o : Oper) (t : Tmp) (j : Nat) (o' : Oper), ops[k]? = some o → t ∈ o.looksAt ops → ops[j]? = some o' → o'.dst = some t → j = k ∨ (j < k ∧ aft (befs ops.toList) k j = true) ∨ (k < j ∧ aft (befs ops.toList) j k = true) := by
    intro k o t j o' hk ht hj hd
    have hlt : k < ops.size := (Array.getElem?_eq_some_iff.1 hk).1
    have hlt' : j < ops.size := (Array.getElem?_eq_some_iff.1 hj).1
    have h3 := all_range o3 hlt
    simp only [looks, hk] at h3
    have := all_range (List.all_eq_true.1 h3 t ht) hlt'
    simp only [dstEq j o' hj, hd] at this
    by_cases h1 : j = k
    · exact .inl h1
    · by_cases h2 : j < k
      · right; left; simpa [h1, h2] using this
      · right; right; simp [h1, h2] at this; exact ⟨by omega, this⟩
  have hCn : ∀ c ∈ C, c < ops.size := fun c hc => by simpa using List.all_eq_true.1 o6 c hc
  -- the text's order
  have hstep : ∀ k, k < ops.size → ∃ o, ops[k]? = some o := fun k hk => ⟨_, Array.getElem?_eq_getElem hk⟩
  have slen : ∀ k, k ≤ ops.size → (tr k).sl.length = (tr 0).sl.length := by
    intro k
    induction k with
    | zero => intro _; rfl
    | succ k ih =>
      intro hk
      obtain ⟨o, ho⟩ := hstep k (by omega)
      rw [htr k o ho, ← ih (by omega)]
      simp only [S.put]
      split <;> simp
  have stepSl : ∀ (k : Nat) (o : Oper) (t : Tmp), ops[k]? = some o → o.dst ≠ some t → (tr (k + 1)).sl.getD t .undef = (tr k).sl.getD t .undef := by
    intro k o t ho hd
    rw [htr k o ho]
    simp only [S.put]
    split
    · rename_i d hdd
      have : d ≠ t := fun e => hd (by rw [hdd, e])
      simp only [List.getD_eq_getElem?_getD]
      rw [getElem?_set_ne' this]
    · rfl
  have keepSl : ∀ (t : Tmp) (d k : Nat), k + d ≤ ops.size → (∀ (j : Nat) (o : Oper), k ≤ j → j < k + d → ops[j]? = some o → o.dst ≠ some t) → (tr (k + d)).sl.getD t .undef = (tr k).sl.getD t .undef := by
    intro t d
    induction d with
    | zero => intro k _ _; rfl
    | succ d ih =>
      intro k hk hn
      obtain ⟨o, ho⟩ := hstep (k + d) (by omega)
      have := stepSl (k + d) o t ho (hn _ _ (by omega) (by omega) ho)
      rw [← ih k (by omega) fun j o h1 h2 h3 => hn j o h1 (by omega) h3]
      exact this
  have keepSl' : ∀ (t : Tmp) (k r : Nat), k ≤ r → r ≤ ops.size → (∀ (j : Nat) (o : Oper), k ≤ j → j < r → ops[j]? = some o → o.dst ≠ some t) → (tr r).sl.getD t .undef = (tr k).sl.getD t .undef := by
    intro t k r h1 h2 h3
    obtain ⟨d, rfl⟩ : ∃ d, r = k + d := ⟨r - k, by omega⟩
    exact keepSl t d k h2 h3
  refine ⟨fun D μ0 a0 w0 hn0 hg0 hr0 => wp_region_any hm ?_⟩
  suffices H : ∀ (fuel : Nat) (listed : Array Bool) (s : S) (r : R) (μ : Mu) (a : Act) (w : World), listed.size = ops.size →
      ((List.range ops.size).countP fun j => !listed.getD j true) ≤ fuel →
      (∀ (k : Nat) (o : Oper) (e : Edge), ops[k]? = some o → listed.getD k false = true → e ∈ o.after → Region.binds .any e = true → listed.getD e.on false = true) →
      s.sl.length = (tr 0).sl.length →
      (∀ (k : Nat) (o : Oper) (d : Tmp), ops[k]? = some o → listed.getD k false = true → o.dst = some d → s.sl.getD d .undef = (tr (k + 1)).sl.getD d .undef) →
      (∀ (t : Tmp), (∀ (k : Nat) (o : Oper), ops[k]? = some o → listed.getD k false = true → o.dst ≠ some t) → s.sl.getD t .undef = (tr 0).sl.getD t .undef) →
      (∀ c ∈ C, listed.getD c false = don r c) → s.st = σ r →
      n ≤ s.st.length → GOk D G μ s.st w → Rel D μ s a w → Fr μ0 (tr 0).st w0 μ s.st w → Ev n μ0 (tr 0).st μ s.st →
      wpAny P .any ops (fun e a' w' => Post D n μ0 (tr 0).st w0 (Q e) a' w') fuel listed a w by
    have hfr : Fr μ0 (tr 0).st w0 μ0 (tr 0).st { w0 with drawn := w0.drawn + 1 } := ⟨rfl, rfl, rfl, Nat.le_refl _, fun g hg => ⟨rfl, hg.2⟩⟩
    have hq : ∀ g, qd D μ0 (tr 0).st w0 g → qd D μ0 (tr 0).st { w0 with drawn := w0.drawn + 1 } g ∧ ({ w0 with drawn := w0.drawn + 1 } : World).heap[g]? = w0.heap[g]? := hfr.qd
    have hrel : Rel D μ0 (tr 0) a0 { w0 with drawn := w0.drawn + 1 } := by
      refine ⟨hr0.dfr, ⟨hr0.sl.1, fun j v hj => (hr0.sl.2 j v hj).keep (Ev.refl (Nat.le_refl _)) hq⟩, ⟨hr0.st.dom, fun i ver sz ro es hi => ?_, hr0.st.inj⟩⟩
      rcases hr0.st.row i ver sz ro es hi with h | ⟨g, m, cur, T, lo, hi', b1, b2, b3, b4, b5, b6, b7, b8, b9⟩
      · exact .inl h
      · exact .inr ⟨g, m, cur, T, lo, hi', b1, b2, b3, b4, b5, fun i cs j v x y => (b6 i cs j v x y).keep (Ev.refl (Nat.le_refl _)) hq, fun h => (hq g (b7 h)).1, b8, b9⟩
    have hf0 : ∀ k, (Array.replicate ops.size false).getD k false = false := fun k => by simp [Array.getD_eq_getD_getElem?, Array.getElem?_replicate]; split <;> rfl
    refine H ops.size _ (tr 0) r0 μ0 a0 _ (by simp) (Nat.le_trans List.countP_le_length (by simp)) (fun k o e _ hl => by rw [hf0] at hl; cases hl) rfl (fun k o d _ hl => by rw [hf0] at hl; cases hl) (fun t _ => rfl)
      (fun c hc => by rw [hf0, hd0 c hc]) h0.symm hn0 (hg0.keep hfr) hrel hfr (Ev.refl hn)
  intro fuel
  induction fuel with
  | zero => ?_
  | succ fuel ih => ?_
  all_goals
    intro listed s r μ a w hls hcnt hdown hsl hlist hbase hch hst hns hg hrel hfr hev
    have lt_false : ∀ k, k < ops.size → listed.getD k true = listed.getD k false := fun k hk => by simp [Array.getD_eq_getD_getElem?, hls, hk]
    -- nothing left to do: all is done
    have hdone : Region.ready .any ops listed = [] → Post D n μ0 (tr 0).st w0 (Q .normal) a w := by
      intro hnil
      have hall : ∀ k, k < ops.size → listed.getD k false = true := by
        intro k
        induction k using Nat.strongRecOn with
        | ind k ihk =>
          intro hk
          rcases Bool.eq_false_or_eq_true (listed.getD k false) with h | h
          · exact h
          · obtain ⟨o, ho⟩ := hstep k hk
            have : k ∈ Region.ready .any ops listed := mem_ready.2 ⟨by rw [lt_false k hk]; exact h, o, ho, fun e he hb => ihk e.on (down k o e ho he hb) (by have := down k o e ho he hb; omega)⟩
            rw [hnil] at this; cases this
      have : s = tr ops.size := by
        have e1 : s.st = (tr ops.size).st := by rw [hst]; exact hend r fun c hc => by rw [← hch c hc]; exact hall c (hCn c hc)
        have e2 : s.sl = (tr ops.size).sl := by
          apply List.ext_getElem (by rw [hsl, slen _ (Nat.le_refl _)])
          intro t h1 h2
          have : s.sl.getD t .undef = (tr ops.size).sl.getD t .undef := by
            by_cases hx : ∃ (k : Nat) (o : Oper), ops[k]? = some o ∧ o.dst = some t
            · obtain ⟨k, o, ho, hd⟩ := hx
              have hk : k < ops.size := (Array.getElem?_eq_some_iff.1 ho).1
              rw [hlist k o t ho (hall k hk) hd]
              refine (keepSl' t (k + 1) ops.size (by omega) (Nat.le_refl _) fun j o' h1 h2 ho' hd' => ?_).symm
              have := dist k j o o' t ho ho' hd hd'
              omega
            · rw [hbase t fun k o ho _ hd => hx ⟨k, o, ho, hd⟩]
              exact (keepSl' t 0 ops.size (Nat.zero_le _) (Nat.le_refl _) fun j o' _ _ ho' hd' => hx ⟨j, o', ho', hd'⟩).symm
          simpa [List.getD_eq_getElem?_getD, h1, h2] using this
        revert e1 e2
        cases s; cases tr ops.size
        rintro rfl rfl
        rfl
      subst this
      exact ⟨_, μ, hQ, hrel, hfr, hev⟩
  · refine ⟨?_, ?_⟩
    · cases hc : Region.ready .any ops listed with
      | nil => rfl
      | cons i is =>
        have hi : i ∈ Region.ready .any ops listed := by rw [hc]; simp
        obtain ⟨h1, o, h2, _⟩ := mem_ready.1 hi
        have hlt : i < ops.size := (Array.getElem?_eq_some_iff.1 h2).1
        have h0 : ((List.range ops.size).countP fun j => !listed.getD j true) = 0 := Nat.le_zero.1 hcnt
        rw [List.countP_eq_zero] at h0
        have := h0 i (List.mem_range.2 hlt)
        rw [h1] at this
        simp at this
    · refine hdone ?_
      cases hc : Region.ready .any ops listed with
      | nil => rfl
      | cons i is =>
        have hi : i ∈ Region.ready .any ops listed := by rw [hc]; simp
        obtain ⟨h1, o, h2, _⟩ := mem_ready.1 hi
        have hlt : i < ops.size := (Array.getElem?_eq_some_iff.1 h2).1
        have h0 : ((List.range ops.size).countP fun j => !listed.getD j true) = 0 := Nat.le_zero.1 hcnt
        rw [List.countP_eq_zero] at h0
        have := h0 i (List.mem_range.2 hlt)
        rw [h1] at this
        simp at this
  · refine ⟨hdone, fun i hi => ?_⟩
    obtain ⟨hun, o, ho, haft⟩ := mem_ready.1 hi
    have hlt : i < ops.size := (Array.getElem?_eq_some_iff.1 ho).1
    have hunf : listed.getD i false = false := by rw [← lt_false i hlt]; exact hun
    have hafter : ∀ c, c ≠ i → aft (befs ops.toList) i c = true → listed.getD c false = true := fun c hci hc => by
      have := befs_ok (fun j => j = i ∨ listed.getD j false = true) _ ops.toList rfl (fun k o' e hk hT he hb => by
        have hk' : ops[k]? = some o' := by simpa using hk
        rcases hT with rfl | hT
        · rw [ho] at hk'; cases hk'
          exact .inr (haft e he hb)
        · exact .inr (hdown k o' e hk' hT he hb)) i c hc (.inl rfl)
      rcases this with h | h
      · exact absurd h hci
      · exact h
    have hbehind : ∀ c, aft (befs ops.toList) c i = true → listed.getD c false = false := fun c hc => by
      rcases Bool.eq_false_or_eq_true (listed.getD c false) with h | h
      · have := befs_ok (fun j => listed.getD j false = true) _ ops.toList rfl (fun k o' e hk hT he hb => hdown k o' e (by simpa using hk) hT he hb) c i hc h
        rw [hunf] at this; cases this
      · exact h
    have hput := htr i o ho
    -- what the operation reads is as in the text's order
    have hsame : ∀ t ∈ o.looksAt ops, (tr i).sl.getD t .undef = s.sl.getD t .undef := by
      intro t ht
      by_cases hx : ∃ (j : Nat) (o' : Oper), ops[j]? = some o' ∧ o'.dst = some t
      · obtain ⟨j, o', hj, hd⟩ := hx
        have hjl : j < ops.size := (Array.getElem?_eq_some_iff.1 hj).1
        have other : ∀ k o2, ops[k]? = some o2 → o2.dst = some t → k = j := fun k o2 hk hd2 => dist k j o2 o' t hk hj hd2 hd
        rcases data i o t j o' ho ht hj hd with rfl | ⟨hlt', ha⟩ | ⟨hlt', ha⟩
        · rw [hbase t fun k o2 hk hl hd2 => by have := other k o2 hk hd2; subst this; rw [hunf] at hl; cases hl]
          exact keepSl' t 0 j (Nat.zero_le _) (Nat.le_of_lt hlt) fun k o2 _ h2 hk hd2 => by have := other k o2 hk hd2; omega
        · rw [hlist j o' t hj (hafter j (by omega) ha) hd]
          exact keepSl' t (j + 1) i (by omega) (Nat.le_of_lt hlt) fun k o2 h1 h2 hk hd2 => by have := other k o2 hk hd2; omega
        · rw [hbase t fun k o2 hk hl hd2 => by have := other k o2 hk hd2; subst this; rw [hbehind k ha] at hl; cases hl]
          exact keepSl' t 0 i (Nat.zero_le _) (Nat.le_of_lt hlt) fun k o2 _ h2 hk hd2 => by have := other k o2 hk hd2; omega
      · rw [hbase t fun k o2 hk _ hd2 => hx ⟨k, o2, hk, hd2⟩]
        exact keepSl' t 0 i (Nat.zero_le _) (Nat.le_of_lt hlt) fun k o2 _ _ hk hd2 => hx ⟨k, o2, hk, hd2⟩
    -- the operation, here
    obtain ⟨r', hch', hd2⟩ : ∃ r', (∀ c ∈ C, (listed.setIfInBounds i true).getD c false = don r' c) ∧ DozR P G own rm ops o ⟨(tr i).sl, σ r⟩ (vs i) (σ r') := by
      by_cases hiC : i ∈ C
      · obtain ⟨r', h1, h2⟩ := hC i o ho hiC r (by rw [← hch i hiC]; exact hunf) (fun c hc hci ha => by rw [← hch c hc]; exact hafter c hci ha) (fun c hc ha => by rw [← hch c hc]; exact hbehind c ha)
        refine ⟨r', fun c hc => ?_, h2⟩
        rw [h1 c hc]
        by_cases hci : c = i
        · subst hci
          simp [Array.getD_eq_getD_getElem?, hls, hlt]
        · rw [getD_set_ne false (Ne.symm hci), hch c hc]
          simp [hci]
      · refine ⟨r, fun c hc => ?_, hR i o ho hiC r (fun c hc ha => by rw [← hch c hc]; exact hafter c (fun e => hiC (e ▸ hc)) ha) (fun c hc ha => by rw [← hch c hc]; exact hbehind c ha)⟩
        have hci : c ≠ i := fun e => hiC (e ▸ hc)
        rw [getD_set_ne false (Ne.symm hci)]
        exact hch c hc
    have hd3 : DozR P G own rm ops o s (vs i) (σ r') := by
      have := hd2.congr (sl2 := s.sl) hsame
      rw [← hst] at this
      exact this
    refine hd3.step ho hns hg hrel fun μ' a' w' hg' hrel' hfr' hev' => ?_
    have hdst : ∀ d, o.dst = some d → (s.put o.dst (vs i) (σ r')).sl.getD d .undef = (tr (i + 1)).sl.getD d .undef := by
      intro d hd
      rw [hput]
      simp only [S.put, hd, List.getD_eq_getElem?_getD]
      by_cases hdl : d < s.sl.length
      · rw [getElem?_set_eq' hdl, getElem?_set_eq' (by rw [slen i (Nat.le_of_lt hlt), ← hsl]; exact hdl)]
      · rw [List.getElem?_eq_none (by simpa using hdl), List.getElem?_eq_none (by rw [List.length_set, slen i (Nat.le_of_lt hlt), ← hsl]; exact Nat.le_of_not_lt hdl)]
    have hoth : ∀ t, o.dst ≠ some t → (s.put o.dst (vs i) (σ r')).sl.getD t .undef = s.sl.getD t .undef := by
      intro t ht
      simp only [S.put]
      split
      · rename_i d hd
        have : d ≠ t := fun e => ht (by rw [hd, e])
        simp only [List.getD_eq_getElem?_getD]
        rw [getElem?_set_ne' this]
      · rfl
    refine ih _ (s.put o.dst (vs i) (σ r')) r' μ' a' w' (by simpa using hls) ?_ ?_ ?_ ?_ ?_ hch' rfl (Nat.le_trans hns hev'.1) hg' hrel' (hfr.trans hfr') (hev.trans (hev'.mono hns))
    · have := cnt_lt (l := List.range ops.size) (i := i) (p := fun j => !listed.getD j true) (q := fun j => !(listed.setIfInBounds i true).getD j true) (List.mem_range.2 hlt) (by simp only [hun]; rfl) (by simp [Array.getD_eq_getD_getElem?, hls, hlt]) (fun j hj => by
        by_cases hij : i = j
        · subst hij; simp [Array.getD_eq_getD_getElem?, hls, hlt] at hj
        · rwa [getD_set_ne true hij] at hj)
      omega
    · intro k o' e hk hl he hb
      by_cases hik : i = k
      · subst hik
        rw [ho] at hk; cases hk
        exact getD_set_true (haft e he hb)
      · rw [getD_set_ne false hik] at hl
        exact getD_set_true (hdown k o' e hk hl he hb)
    · rw [← hsl]; simp only [S.put]; split <;> simp
    · intro k o' d hk hl hd
      by_cases hik : i = k
      · subst hik
        rw [ho] at hk; cases hk
        exact hdst d hd
      · rw [getD_set_ne false hik] at hl
        rw [hoth d fun e => hik (dist i k o o' d ho hk e hd)]
        exact hlist k o' d hk hl hd
    · intro t ht
      rw [hoth t (ht i o ho (by simp [Array.getD_eq_getD_getElem?, hls, hlt]))]
      refine hbase t fun k o' hk hl => ?_
      by_cases hik : i = k
      · subst hik; rw [hunf] at hl; cases hl
      · exact ht k o' hk (by rw [getD_set_ne false hik]; exact hl)

def chkCR (P : Program) (G : Gl) (own : Tmp → Bool) (rm : Tmp → Option Nat) (ops : Array Oper) (PH : List Ph) (hist : List (S × V)) (s : S) : List (Nat × Nat × Nat) → Prop
  | [] => True
  | (k, r, r') :: L => (match ops[k]? with | some o => DozR P G own rm ops o ⟨(trOf hist s k).sl, phSt PH hist s r⟩ (vsOf hist k) (phSt PH hist s r') | none => True) ∧ chkCR P G own rm ops PH hist s L
def chkRR (P : Program) (G : Gl) (own : Tmp → Bool) (rm : Tmp → Option Nat) (ops : Array Oper) (PH : List Ph) (hist : List (S × V)) (s : S) : List (Nat × Nat) → Prop
  | [] => True
  | (k, r) :: L => (match ops[k]? with | some o => DozR P G own rm ops o ⟨(trOf hist s k).sl, phSt PH hist s r⟩ (vsOf hist k) (phSt PH hist s r) | none => True) ∧ chkRR P G own rm ops PH hist s L
theorem chkCR_ok {ops : Array Oper} {PH : List Ph} {hist : List (S × V)} {s : S} : ∀ {L : List (Nat × Nat × Nat)}, chkCR P G own rm ops PH hist s L → ∀ k r r', (k, r, r') ∈ L → ∀ (o : Oper), ops[k]? = some o → DozR P G own rm ops o ⟨(trOf hist s k).sl, phSt PH hist s r⟩ (vsOf hist k) (phSt PH hist s r')
  | [], _, k, r, r', hm, _, _ => by simp at hm
  | (k0, r0, r1) :: L, h, k, r, r', hm, o, ho => by
    simp only [List.mem_cons] at hm
    rcases hm with hm | hm
    · cases hm
      have := h.1
      simpa only [ho] using this
    · exact chkCR_ok h.2 k r r' hm o ho
theorem chkRR_ok {ops : Array Oper} {PH : List Ph} {hist : List (S × V)} {s : S} : ∀ {L : List (Nat × Nat)}, chkRR P G own rm ops PH hist s L → ∀ k r, (k, r) ∈ L → ∀ (o : Oper), ops[k]? = some o → DozR P G own rm ops o ⟨(trOf hist s k).sl, phSt PH hist s r⟩ (vsOf hist k) (phSt PH hist s r)
  | [], _, k, r, hm, _, _ => by simp at hm
  | (k0, r0) :: L, h, k, r, hm, o, ho => by
    simp only [List.mem_cons] at hm
    rcases hm with hm | hm
    · cases hm
      have := h.1
      simpa only [ho] using this
    · exact chkRR_ok h.2 k r hm o ho
theorem draw_bx {n id : Nat} {ops : Array Oper} (rm : Tmp → Option Nat) (C : List Nat) (PH : List Ph) (LC : List (Nat × Nat × Nat)) (LR : List (Nat × Nat)) (rend : Nat) (res : List (V × List Ob)) {Q : Exit → S → Prop} {s : S} (hm : P.follows .mixedOrders = true) (ho : ordP ops C = true) (hp : phOK ops C PH LC LR rend = true) (hn : n ≤ s.st.length)
    (h : drawxR P G own rm ops ops.toList res [] (fun hist s' => phSt PH hist.reverse s' 0 = (trOf hist.reverse s' 0).st ∧ phSt PH hist.reverse s' rend = s'.st ∧ chkCR P G own rm ops PH hist.reverse s' LC ∧ chkRR P G own rm ops PH hist.reverse s' LR ∧ Q .normal s') s) : W P G n (.region id ops true) Q s := by
  obtain ⟨hist, s', e1, e2, e3, e4, e5, e6, e7, e8⟩ := drawxR_tr ops.toList res [] s (by simp) (Nat.zero_le _) (fun j o hj => by simp at hj) h
  have e0 : trOf hist.reverse s' 0 = s := by rw [e2]; simp [trOf]
  have elast : trOf hist.reverse s' ops.size = s' := by rw [← e1, ← List.length_reverse, trOf_last]
  simp only [phOK, Bool.and_eq_true, decide_eq_true_eq] at hp
  obtain ⟨⟨⟨⟨p1, p2⟩, p3⟩, p4⟩, p5⟩ := hp
  have := any_orderR (tr := trOf hist.reverse s') (vs := vsOf hist.reverse) (id := id) (n := n) (Q := Q) (own := own) (rm := rm) (R := { r : Nat // r < PH.length }) hm ho (fun r c => phDon PH r.1 c) (fun r => phSt PH hist.reverse s' r.1) ⟨0, p1⟩
    (fun k o hk => (e3 k o (by rw [List.length_reverse, e1]; exact (Array.getElem?_eq_some_iff.1 hk).1) hk).2) e4
    (fun c hc => by simpa using List.all_eq_true.1 p2 c hc)
    (fun k o hk hkC r hd ha hb => by
      have h3 := List.all_eq_true.1 (List.all_eq_true.1 p3 k hkC) r.1 (List.mem_range.2 r.2)
      simp only [Bool.or_eq_true, Bool.not_eq_true', List.any_eq_true] at h3
      rcases h3 with ((h3 | h3) | h3) | ⟨⟨k', r1, r2⟩, hm, h3⟩
      · rw [hd] at h3; cases h3
      · exfalso
        have : (C.all fun c => c == k || !aft (befs ops.toList) k c || phDon PH r.1 c) = true := List.all_eq_true.2 fun c hc => by
          by_cases hck : c = k
          · simp [hck]
          · cases hq : aft (befs ops.toList) k c with
            | false => simp
            | true => simp [ha c hc hck hq]
        rw [this] at h3; cases h3
      · exfalso
        have : (C.all fun c => !aft (befs ops.toList) c k || !phDon PH r.1 c) = true := List.all_eq_true.2 fun c hc => by
          cases hq : aft (befs ops.toList) c k with
          | false => simp
          | true => simp [hb c hc hq]
        rw [this] at h3; cases h3
      · simp only [Bool.and_eq_true, beq_iff_eq, decide_eq_true_eq] at h3
        obtain ⟨⟨⟨rfl, rfl⟩, h4⟩, h5⟩ := h3
        refine ⟨⟨r2, h4⟩, fun c hc => by simpa using List.all_eq_true.1 h5 c hc, chkCR_ok e6 _ _ _ hm o hk⟩)
    (fun k o hk hkC r ha hb => by
      have h3 := List.all_eq_true.1 p4 k (List.mem_range.2 (Array.getElem?_eq_some_iff.1 hk).1)
      simp only [Bool.or_eq_true, List.contains_eq_mem, decide_eq_true_eq, hkC, false_or] at h3
      have h3 := List.all_eq_true.1 h3 r.1 (List.mem_range.2 r.2)
      simp only [Bool.or_eq_true, Bool.not_eq_true', List.contains_eq_mem, decide_eq_true_eq] at h3
      rcases h3 with (h3 | h3) | h3
      · exfalso
        have : (C.all fun c => !aft (befs ops.toList) k c || phDon PH r.1 c) = true := List.all_eq_true.2 fun c hc => by
          cases hq : aft (befs ops.toList) k c with
          | false => simp
          | true => simp [ha c hc hq]
        rw [this] at h3; cases h3
      · exfalso
        have : (C.all fun c => !aft (befs ops.toList) c k || !phDon PH r.1 c) = true := List.all_eq_true.2 fun c hc => by
          cases hq : aft (befs ops.toList) c k with
          | false => simp
          | true => simp [hb c hc hq]
        rw [this] at h3; cases h3
      · exact chkRR_ok e7 _ _ h3 o hk)
    (fun r hall => by
      have h3 := List.all_eq_true.1 p5 r.1 (List.mem_range.2 r.2)
      have : (C.all fun c => phDon PH r.1 c) = true := List.all_eq_true.2 hall
      rw [this] at h3
      have : r.1 = rend := by simpa using h3
      show phSt PH hist.reverse s' r.1 = _
      rw [this, e5, elast])
    (by rw [elast]; exact e8) (by rw [e0]; exact hn)
  rwa [e0] at this
end
end Go.Proofs.YtdbmfnhbgacldaaDoor.Am
