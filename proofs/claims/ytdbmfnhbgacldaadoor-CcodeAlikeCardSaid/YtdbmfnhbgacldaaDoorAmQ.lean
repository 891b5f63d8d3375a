/- The logic: regions whose order is drawn. -/
import Derived.Test.YtdbmfnhbgacldaaDoorAmP
namespace Go.Proofs.YtdbmfnhbgacldaaDoor.Am
set_option autoImplicit false
set_option linter.unusedVariables false
set_option linter.unusedSimpArgs false

/-- one operation that hands back v and leaves the store st', whatever follows -/
def OpD (P : Program) (G : Gl) (own : Tmp → Bool) (o : Oper) (s : S) (v : V) (st' : List Ob) : Prop :=
  match o.op with
  | .call ⟨.value f, args, _⟩ => match ev G s.sl f with
    | .fn (.func fid) first captured => CallW P G fid (first ++ (args.toList.map (ev G s.sl) ++ captured)) s.st (fun r st'' => r = v ∧ st'' = st')
    | _ => False
  | op => match opA P (match o.dst with | some d => own d | none => false) s.st (ev G s.sl) op with
    | some (p, v', st'') => sdAnd p (v' = v ∧ st'' = st')
    | none => False
/-- the same, as its guard says -/
def Doz (P : Program) (G : Gl) (own : Tmp → Bool) (ops : Array Oper) (o : Oper) (s : S) (v : V) (st' : List Ob) : Prop :=
  match o.guard with
  | none => OpD P G own o s v st'
  | some (j, want) => match guardA ops s.sl j with
    | some (_, b) => if b = some want then OpD P G own o s v st' else v = .tup [] ∧ st' = s.st
    | none => False

section
variable {P : Program} {G : Gl} {own : Tmp → Bool} {D : Nat → Prop}

theorem OpD.opx {o : Oper} {s : S} {v : V} {st' : List Ob} (h : OpD P G own o s v st') : opx P G own o (fun s' => s' = s.put o.dst v st') s := by
  unfold OpD at h
  unfold Am.opx
  split at h
  · rename_i f args ats ho
    split at h
    · rename_i fid first captured hf
      simp only [ho, hf, fVs'_eq]
      exact h.mono fun r st'' ⟨h1, h2⟩ => by rw [fW_eq, fS_eq, h1, h2]
    · exact h.elim
  · rename_i op hne
    split at h
    · rename_i p v' st'' hop
      obtain ⟨h1, h2, h3⟩ := sdAnd_ok h
      subst h2 h3
      split
      · rename_i f args ats ho
        exact absurd ho (hne f args ats)
      · split
        · rename_i p2 v2 st2 hop2
          have e := hop2.symm.trans hop
          simp only [Option.some.injEq, Prod.mk.injEq] at e
          obtain ⟨rfl, rfl, rfl⟩ := e
          simp only [fW_eq, fS_eq]
          cases p2 with
          | none => trivial
          | some p => exact ⟨h1 p rfl, trivial⟩
        · rename_i hop2
          have e := hop2.symm.trans hop
          cases e
    · exact h.elim

theorem ev_congr {sl sl2 : List V} {x : Operand} (h : ∀ t, x = .tmp t → sl.getD t .undef = sl2.getD t .undef) : ev G sl x = ev G sl2 x := by
  cases x with
  | tmp t => exact h t rfl
  | _ => rfl

theorem opA0_congr {ow : Bool} {st : List Ob} {ρ ρ' : Operand → V} : ∀ (op : Op), (∀ x ∈ op.operands, ρ x = ρ' x) → opA0 P ow st ρ op = opA0 P ow st ρ' op := by
  intro op h
  have hl : ∀ xs : Array Operand, (∀ x ∈ xs, ρ x = ρ' x) → xs.toList.map ρ = xs.toList.map ρ' := fun xs hx => List.map_congr_left fun x hm => hx x (by simpa using hm)
  have hp : ∀ xs : Array (Nat × Operand), (∀ x ∈ (xs.toList.map (·.2)).toArray, ρ x = ρ' x) → (xs.toList.map fun (i, x) => (i, ρ x)) = xs.toList.map fun (i, x) => (i, ρ' x) := fun xs hx => List.map_congr_left fun x hm => by
    have := hx x.2 (by simp; exact ⟨x.1, by simpa using hm⟩)
    simp only [this]
  cases op with
  | build t ps => simp only [opA0]; rw [hp ps h]
  | buildSlice t l ps => simp only [opA0]; rw [hp ps h]
  | makeFunc f a b =>
    simp only [opA0]
    rw [hl a fun x hx => h x (by simp [Op.operands, hx]), hl b fun x hx => h x (by simp [Op.operands, hx])]
  | slice t x lo hi m =>
    have hx := h x (by simp [Op.operands])
    have hlo : lo.map ρ = lo.map ρ' := by cases lo with | none => rfl | some y => simp [h y (by simp [Op.operands])]
    have hhi : hi.map ρ = hi.map ρ' := by cases hi with | none => rfl | some y => simp [h y (by simp [Op.operands])]
    cases m with
    | none => simp only [opA0, hx, hlo, hhi]
    | some m => rfl
  | call c =>
    obtain ⟨callee, args, ats⟩ := c
    cases callee with
    | builtin b =>
      simp only [opA0]
      rw [hl args fun x hx => h x (by simp [Op.operands, Call.operands, hx])]
    | _ => rfl
  | _ => first
    | rfl
    | simp [Op.operands] at h; simp [opA0, h]

theorem arrOpA_congr {st : List Ob} {ρ ρ' : Operand → V} : ∀ (op : Op), (∀ x ∈ op.operands, ρ x = ρ' x) → arrOpA P st ρ op = arrOpA P st ρ' op := by
  intro op h
  have hl : ∀ xs : Array Operand, (∀ x ∈ xs, ρ x = ρ' x) → xs.toList.map ρ = xs.toList.map ρ' := fun xs hx => List.map_congr_left fun x hm => hx x (by simpa using hm)
  cases op with
  | load t a => simp only [arrOpA]; rw [h a (by simp [Op.operands])]
  | store t a x => simp only [arrOpA]; rw [h a (by simp [Op.operands]), h x (by simp [Op.operands])]
  | indexAddr t x i => simp only [arrOpA]; rw [h x (by simp [Op.operands]), h i (by simp [Op.operands])]
  | slice t x lo hi m =>
    have hx := h x (by simp [Op.operands])
    have hlo : lo.map ρ = lo.map ρ' := by cases lo with | none => rfl | some y => simp [h y (by simp [Op.operands])]
    have hhi : hi.map ρ = hi.map ρ' := by cases hi with | none => rfl | some y => simp [h y (by simp [Op.operands])]
    cases m with
    | none => simp only [arrOpA, hx, hlo, hhi]
    | some m => rfl
  | call c =>
    obtain ⟨callee, args, ats⟩ := c
    cases callee with
    | builtin b =>
      cases b <;> first
        | rfl
        | (simp only [arrOpA]
           rw [hl args fun x hx => h x (by simp [Op.operands, Call.operands, hx])])
    | _ => rfl
  | _ => rfl
theorem opA_congr {ow : Bool} {st : List Ob} {ρ ρ' : Operand → V} (op : Op) (h : ∀ x ∈ op.operands, ρ x = ρ' x) : opA P ow st ρ op = opA P ow st ρ' op := by
  unfold opA
  rw [arrOpA_congr op h, opA0_congr op h]

theorem OpD.congr {ops : Array Oper} {o : Oper} {sl sl2 : List V} {st st' : List Ob} {v : V} (hc : ∀ t ∈ o.looksAt ops, sl.getD t .undef = sl2.getD t .undef) (h : OpD P G own o ⟨sl, st⟩ v st') : OpD P G own o ⟨sl2, st⟩ v st' := by
  have he : ∀ x ∈ o.op.operands, ev G sl x = ev G sl2 x := fun x hx => ev_congr fun t ht => hc t (by
    subst ht
    simp only [Oper.looksAt, List.mem_append]
    exact .inl (List.mem_filterMap.2 ⟨_, by simpa using hx, rfl⟩))
  have heq : OpD P G own o ⟨sl, st⟩ v st' = OpD P G own o ⟨sl2, st⟩ v st' := by
    unfold OpD
    generalize o.op = op at he ⊢
    split
    · rename_i f args ats
      have hf := he f (by simp [Op.operands, Call.operands])
      have ha : args.toList.map (ev G sl) = args.toList.map (ev G sl2) := List.map_congr_left fun x hx => he x (by
        simp only [Op.operands, Call.operands]
        simp at hx
        simp [hx])
      simp only [hf, ha]
    · simp only [opA_congr _ he]
  exact heq ▸ h
theorem guardA_congr {ops : Array Oper} {sl sl2 : List V} {j : Nat} (h : ∀ d, (ops[j]?).bind (·.dst) = some d → sl.getD d .undef = sl2.getD d .undef) : guardA ops sl j = guardA ops sl2 j := by
  unfold guardA
  split
  · rename_i d hd; rw [h d hd]
  · rfl
theorem Doz.congr {ops : Array Oper} {o : Oper} {sl sl2 : List V} {st st' : List Ob} {v : V} (hc : ∀ t ∈ o.looksAt ops, sl.getD t .undef = sl2.getD t .undef) (h : Doz P G own ops o ⟨sl, st⟩ v st') : Doz P G own ops o ⟨sl2, st⟩ v st' := by
  unfold Doz at h ⊢
  cases hg : o.guard with
  | none => simp only [hg] at h ⊢; exact h.congr hc
  | some jw =>
    obtain ⟨j, want⟩ := jw
    simp only [hg] at h ⊢
    rw [← guardA_congr (sl := sl) fun d hd => hc d (by simp [Oper.looksAt, hg, hd])]
    split at h
    · split at h
      · rename_i hb; rw [if_pos hb]; exact h.congr hc
      · rename_i hb; rw [if_neg hb]; exact h
    · exact h.elim

theorem Doz.step {n : Nat} {ops : Array Oper} {i : Nat} {o : Oper} {s : S} {v : V} {st' : List Ob} (hi : ops[i]? = some o) (h : Doz P G own ops o s v st') {μ : Mu} {a : Act} {w : World} (hn : n ≤ s.st.length) (hg : GOk D G μ s.st w) (hr : Rel D μ s a w)
    {Q : Exit → Act → World → Prop} {K : Act → World → Prop} (hK : ∀ μ' a' w', GOk D G μ' st' w' → Rel D μ' (s.put o.dst v st') a' w' → Fr μ s.st w μ' st' w' → Ev s.st.length μ s.st μ' st' → K a' w') : wpOp P ops Q i K a w := by
  unfold wpOp
  simp only [hi]
  have doit : OpD P G own o s v st' → o.wp P a w K Q := fun hx => Oper.wp_mono (fun a' w' ⟨s', μ', e, h1, h2, h3, h4⟩ => by
    subst e
    exact hK μ' a' w' (by simpa [S.put] using h1) h2 (by simpa [S.put] using h3) (by simpa [S.put] using h4)) (opx_ok hx.opx hn hg hr)
  unfold Doz at h
  cases hgd : o.guard with
  | none =>
    simp only [hgd] at h
    rw [if_pos (by simp [Region.wanted, hgd])]
    exact .inl (doit h)
  | some jw =>
    obtain ⟨j, want⟩ := jw
    simp only [hgd] at h
    split at h
    · rename_i d b hb
      obtain ⟨hy, _⟩ := yielded_eq hr hb
      split at h
      · rename_i hbw
        rw [if_pos (by simp [Region.wanted, hgd, hy, hbw])]
        exact .inl (doit h)
      · rename_i hbw
        rw [if_neg (by simp [Region.wanted, hgd, hy, hbw])]
        obtain ⟨rfl, rfl⟩ := h
        exact hK μ _ w hg (hr.skip o.dst) (Fr.refl _ _ _) (Ev.refl (Nat.le_refl _))
    · exact h.elim

/-- of each operation who comes ahead of it in each order, as bits -/
def bef1 (acc : List Nat) (o : Oper) : Nat := o.after.toList.foldl (fun s e => if Region.binds .any e then s ||| 2 ^ e.on ||| acc.getD e.on 0 else s) 0
def befs (ops : List Oper) : List Nat := ops.foldl (fun acc o => acc ++ [bef1 acc o]) []
/-- operation i comes behind operation j in each order -/
def aft (B : List Nat) (i j : Nat) : Bool := Nat.testBit (B.getD i 0) j
def dstOf (ops : Array Oper) (i : Nat) : Option Tmp := (ops[i]?).bind (·.dst)
def looks (ops : Array Oper) (i : Nat) : List Tmp := match ops[i]? with | some o => o.looksAt ops | none => []
/-- the first of these that is not ahead of k -/
def nx (C : List Nat) (n k : Nat) : Nat := match C with | [] => n | c :: cs => if k ≤ c then c else nx cs n k

/-- what the order of a region's operations leaves open matters to none of them; C: who changes the store; L: who meets another store than in the text's order -/
def ordOK (ops : Array Oper) (C : List Nat) (L : List (Nat × Nat)) : Bool :=
  let n := ops.size
  let B := befs ops.toList
  let R := List.range n
  (R.all fun k => match ops[k]? with | some o => o.after.toList.all fun e => !Region.binds .any e || decide (e.on < k) | none => true) &&
  (R.all fun k => R.all fun j => j == k || (dstOf ops j).isNone || dstOf ops j != dstOf ops k) &&
  (R.all fun k => (looks ops k).all fun t => R.all fun j => j == k || dstOf ops j != some t || (if j < k then aft B k j else aft B j k)) &&
  (C.all fun c => C.all fun c' => !decide (c < c') || aft B c' c) &&
  ((List.range (n + 1)).all fun k => decide (k ≤ nx C n k) && (C ++ [n]).contains (nx C n k) && C.all fun c => !(decide (k ≤ c) && decide (c < nx C n k))) &&
  (C.all fun c => decide (c < n)) &&
  (R.all fun k => C.contains k || (C ++ [n]).all fun r => r == nx C n k || L.contains (k, r) || C.any fun c => (aft B k c && !decide (c < r)) || (aft B c k && decide (c < r)))

theorem bef1_ok {acc : List Nat} {o : Oper} {j : Nat} (h : Nat.testBit (bef1 acc o) j = true) : ∃ e ∈ o.after, Region.binds .any e = true ∧ (e.on = j ∨ Nat.testBit (acc.getD e.on 0) j = true) := by
  have key : ∀ (l : List Edge) (s : Nat), Nat.testBit (l.foldl (fun s e => if Region.binds .any e then s ||| 2 ^ e.on ||| acc.getD e.on 0 else s) s) j = true → Nat.testBit s j = true ∨ ∃ e ∈ l, Region.binds .any e = true ∧ (e.on = j ∨ Nat.testBit (acc.getD e.on 0) j = true) := by
    intro l
    induction l with
    | nil => intro s h; exact .inl h
    | cons e l ih =>
      intro s h
      rcases ih _ h with h | ⟨e', he, h⟩
      · simp only at h
        by_cases hb : Region.binds .any e = true
        · rw [if_pos hb, Nat.testBit_or, Nat.testBit_or, Nat.testBit_two_pow] at h
          simp only [Bool.or_eq_true, decide_eq_true_eq] at h
          rcases h with (h | h) | h
          · exact .inl h
          · exact .inr ⟨e, List.mem_cons_self, hb, .inl h⟩
          · exact .inr ⟨e, List.mem_cons_self, hb, .inr h⟩
        · rw [if_neg hb] at h; exact .inl h
      · exact .inr ⟨e', List.mem_cons_of_mem _ he, h⟩
  rcases key _ _ h with h | ⟨e, he, h⟩
  · simp at h
  · exact ⟨e, by simpa using he, h⟩
theorem befs_len : ∀ l : List Oper, (befs l).length = l.length := by
  intro l
  have : ∀ (l : List Oper) (acc : List Nat), (l.foldl (fun acc o => acc ++ [bef1 acc o]) acc).length = acc.length + l.length := by
    intro l
    induction l with
    | nil => intro acc; simp
    | cons o l ih => intro acc; rw [List.foldl_cons, ih]; simp; omega
  simpa [befs] using this l []
theorem befs_snoc (l : List Oper) (o : Oper) : befs (l ++ [o]) = befs l ++ [bef1 (befs l) o] := by simp [befs, List.foldl_append]
theorem befs_ok (T : Nat → Prop) : ∀ (n : Nat) (l : List Oper), l.length = n → (∀ (i : Nat) (o : Oper) (e : Edge), l[i]? = some o → T i → e ∈ o.after → Region.binds .any e = true → T e.on) → ∀ i j, aft (befs l) i j = true → T i → T j := by
  intro n
  induction n with
  | zero =>
    intro l hl _ i j h
    rw [List.eq_nil_of_length_eq_zero hl] at h
    simp [befs, aft] at h
  | succ n ih =>
    intro l hl hT i j h hi
    obtain ⟨l', o, rfl⟩ : ∃ l' o, l = l' ++ [o] := by
      refine ⟨l.dropLast, l.getLast (by intro e; rw [e] at hl; simp at hl), (List.dropLast_concat_getLast _).symm⟩
    have hl' : l'.length = n := by simpa using hl
    have ih' := ih l' hl' (fun i o' e ho => hT i o' e (by rw [List.getElem?_append_left (lt_of_get? ho)]; exact ho))
    unfold aft at h
    rw [befs_snoc] at h
    rcases Nat.lt_or_ge i l'.length with hil | hil
    · rw [List.getD_eq_getElem?_getD, List.getElem?_append_left (by rw [befs_len]; exact hil), ← List.getD_eq_getElem?_getD] at h
      exact ih' i j h hi
    · rcases Nat.lt_or_ge l'.length i with hil2 | hil2
      · rw [List.getD_eq_getElem?_getD, List.getElem?_eq_none (by simp [befs_len]; omega)] at h
        simp at h
      · have : i = l'.length := by omega
        subst this
        rw [List.getD_eq_getElem?_getD, List.getElem?_append_right (by simp [befs_len]), befs_len, Nat.sub_self] at h
        obtain ⟨e, he, hb, h⟩ := bef1_ok (by simpa using h)
        have hte := hT _ o e (by simp) hi he hb
        rcases h with rfl | h
        · exact hte
        · exact ih' e.on j h hte

theorem cnt_lt {p q : Nat → Bool} : ∀ {l : List Nat} {i : Nat}, i ∈ l → p i = true → q i = false → (∀ j, q j = true → p j = true) → (l.countP q) < l.countP p
  | [], i, h, _, _, _ => by simp at h
  | x :: l, i, h, hp, hq, hle => by
    have hm : l.countP q ≤ l.countP p := List.countP_mono_left fun j _ hj => hle j hj
    rw [List.countP_cons, List.countP_cons]
    rcases List.mem_cons.1 h with rfl | h
    · simp [hp, hq]; omega
    · have := cnt_lt h hp hq hle
      by_cases hqx : q x = true
      · simp [hqx, hle x hqx]; omega
      · simp [hqx]; split <;> omega

theorem all_range {n : Nat} {f : Nat → Bool} (h : (List.range n).all f = true) {k : Nat} (hk : k < n) : f k = true := List.all_eq_true.1 h k (List.mem_range.2 hk)

/-- a drawn region's operations, in whatever order -/
structure WA (P : Program) (G : Gl) (n : Nat) (ops : Array Oper) (Q : Exit → S → Prop) (s : S) : Prop where
  out : ∀ (D : Nat → Prop) μ a w, n ≤ s.st.length → GOk D G μ s.st w → Rel D μ s a w → wpAny P .any ops (fun e a' w' => Post D n μ s.st w (Q e) a' w') ops.size (Array.replicate ops.size false) a { w with drawn := w.drawn + 1 }
theorem WA.w {n : Nat} {ops : Array Oper} {Q : Exit → S → Prop} {s : S} (h : WA P G n ops Q s) (id : Nat) (hm : P.follows .mixedOrders = true) : W P G n (.region id ops true) Q s :=
  ⟨fun D μ a w hn hg hr => wp_region_any hm (h.out D μ a w hn hg hr)⟩
theorem any_orderA {n : Nat} {ops : Array Oper} {C : List Nat} {L : List (Nat × Nat)} (ho : ordOK ops C L = true) {tr : Nat → S} {vs : Nat → V}
    (htr : ∀ (k : Nat) (o : Oper), ops[k]? = some o → Doz P G own ops o (tr k) (vs k) (tr (k + 1)).st ∧ tr (k + 1) = (tr k).put o.dst (vs k) (tr (k + 1)).st)
    (hC : ∀ k, k < ops.size → k ∉ C → (tr (k + 1)).st = (tr k).st)
    (hL : ∀ k r, (k, r) ∈ L → ∀ (o : Oper), ops[k]? = some o → Doz P G own ops o ⟨(tr k).sl, (tr r).st⟩ (vs k) (tr r).st)
    {Q : Exit → S → Prop} (hQ : Q .normal (tr ops.size)) (hn : n ≤ (tr 0).st.length) : WA P G n ops Q (tr 0) := by
  simp only [ordOK, Bool.and_eq_true] at ho
  obtain ⟨⟨⟨⟨⟨⟨o1, o2⟩, o3⟩, o4⟩, o5⟩, o6⟩, o7⟩ := ho
  have down : ∀ (k : Nat) (o : Oper) (e : Edge), ops[k]? = some o → e ∈ o.after → Region.binds .any e = true → e.on < k := by
    intro k o e hk he hb
    have hlt : k < ops.size := (Array.getElem?_eq_some_iff.1 hk).1
    have := all_range o1 hlt
    simp only [hk, List.all_eq_true] at this
    have := this e (by simpa using he)
    simpa [hb] using this
  have dstEq : ∀ (k : Nat) (o : Oper), ops[k]? = some o → dstOf ops k = o.dst := fun k o hk => by simp [dstOf, hk]
  have dist : ∀ (k j : Nat) (o o' : Oper) (d : Tmp), ops[k]? = some o → ops[j]? = some o' → o.dst = some d → o'.dst = some d → k = j := by
    intro k j o o' d hk hj hd hd'
    have hlt : k < ops.size := (Array.getElem?_eq_some_iff.1 hk).1
    have hlt' : j < ops.size := (Array.getElem?_eq_some_iff.1 hj).1
    have := all_range (all_range o2 hlt) hlt'
    simp [dstEq k o hk, dstEq j o' hj, hd, hd'] at this
    exact this.symm
  have data : ∀ (k : Nat) (o : Oper) (t : Tmp) (j : Nat) (o' : Oper), ops[k]? = some o → t ∈ o.looksAt ops → ops[j]? = some o' → o'.dst = some t → j = k ∨ (j < k ∧ aft (befs ops.toList) k j = true) ∨ (k < j ∧ aft (befs ops.toList) j k = true) := by
    intro k o t j o' hk ht hj hd
    have hlt : k < ops.size := (Array.getElem?_eq_some_iff.1 hk).1
    have hlt' : j < ops.size := (Array.getElem?_eq_some_iff.1 hj).1
    have h3 := all_range o3 hlt
    simp only [looks, hk] at h3
    have := all_range (List.all_eq_true.1 h3 t ht) hlt'
    simp only [dstEq j o' hj, hd] at this
    by_cases h1 : j = k
    · exact .inl h1
    · by_cases h2 : j < k
      · right; left; simpa [h1, h2] using this
      · right; right; simp [h1, h2] at this; exact ⟨by omega, this⟩
  have chOrd : ∀ c ∈ C, ∀ c' ∈ C, c < c' → aft (befs ops.toList) c' c = true := by
    intro c hc c' hc' hlt
    have := List.all_eq_true.1 (List.all_eq_true.1 o4 c hc) c' hc'
    simpa [hlt] using this
  have hnx : ∀ k, k ≤ ops.size → k ≤ nx C ops.size k ∧ (nx C ops.size k ∈ C ∨ nx C ops.size k = ops.size) ∧ ∀ c ∈ C, k ≤ c → ¬ c < nx C ops.size k := by
    intro k hk
    have := all_range o5 (k := k) (by omega)
    simp only [Bool.and_eq_true, decide_eq_true_eq, List.all_eq_true, List.contains_eq_mem, List.mem_append, List.mem_singleton] at this
    refine ⟨this.1.1, this.1.2, fun c hc h1 h2 => ?_⟩
    have := this.2 c hc
    simp [h1, h2] at this
  have hCn : ∀ c ∈ C, c < ops.size := fun c hc => by simpa using List.all_eq_true.1 o6 c hc
  have hnxle : ∀ k, k ≤ ops.size → nx C ops.size k ≤ ops.size := fun k hk => by
    rcases (hnx k hk).2.1 with h | h
    · exact Nat.le_of_lt (hCn _ h)
    · omega
  have hread : ∀ k, k < ops.size → k ∉ C → ∀ r, (r ∈ C ∨ r = ops.size) → r = nx C ops.size k ∨ (k, r) ∈ L ∨ ∃ c ∈ C, (aft (befs ops.toList) k c = true ∧ ¬ c < r) ∨ (aft (befs ops.toList) c k = true ∧ c < r) := by
    intro k hk hkC r hr
    have := all_range o7 hk
    simp only [Bool.or_eq_true, List.contains_eq_mem, decide_eq_true_eq, hkC, false_or, List.all_eq_true] at this
    have := this r (by simpa using hr)
    simp only [Bool.or_eq_true, beq_iff_eq, decide_eq_true_eq, List.any_eq_true, Bool.and_eq_true, Bool.not_eq_true', decide_eq_false_iff_not] at this
    rcases this with (h | h) | h
    · exact .inl h
    · exact .inr (.inl h)
    · exact .inr (.inr h)
  -- the text's order
  have hstep : ∀ k, k < ops.size → ∃ o, ops[k]? = some o := fun k hk => ⟨_, Array.getElem?_eq_getElem hk⟩
  have keepSt : ∀ d k, k + d ≤ ops.size → (∀ c ∈ C, k ≤ c → ¬ c < k + d) → (tr k).st = (tr (k + d)).st := by
    intro d
    induction d with
    | zero => intro k _ _; rfl
    | succ d ih =>
      intro k hk hc
      rw [ih k (by omega) (fun c hcm h1 h2 => hc c hcm h1 (by omega))]
      exact (hC (k + d) (by omega) (fun hm => hc _ hm (by omega) (by omega))).symm
  have keepSt' : ∀ k r, k ≤ r → r ≤ ops.size → (∀ c ∈ C, k ≤ c → ¬ c < r) → (tr k).st = (tr r).st := by
    intro k r h1 h2 h3
    obtain ⟨d, rfl⟩ : ∃ d, r = k + d := ⟨r - k, by omega⟩
    exact keepSt d k h2 h3
  have slen : ∀ k, k ≤ ops.size → (tr k).sl.length = (tr 0).sl.length := by
    intro k
    induction k with
    | zero => intro _; rfl
    | succ k ih =>
      intro hk
      obtain ⟨o, ho⟩ := hstep k (by omega)
      rw [(htr k o ho).2, ← ih (by omega)]
      simp only [S.put]
      split <;> simp
  have stepSl : ∀ (k : Nat) (o : Oper) (t : Tmp), ops[k]? = some o → o.dst ≠ some t → (tr (k + 1)).sl.getD t .undef = (tr k).sl.getD t .undef := by
    intro k o t ho hd
    rw [(htr k o ho).2]
    simp only [S.put]
    split
    · rename_i d hdd
      have : d ≠ t := fun e => hd (by rw [hdd, e])
      simp only [List.getD_eq_getElem?_getD]
      rw [getElem?_set_ne' this]
    · rfl
  have keepSl : ∀ (t : Tmp) (d k : Nat), k + d ≤ ops.size → (∀ (j : Nat) (o : Oper), k ≤ j → j < k + d → ops[j]? = some o → o.dst ≠ some t) → (tr (k + d)).sl.getD t .undef = (tr k).sl.getD t .undef := by
    intro t d
    induction d with
    | zero => intro k _ _; rfl
    | succ d ih =>
      intro k hk hn
      obtain ⟨o, ho⟩ := hstep (k + d) (by omega)
      have := stepSl (k + d) o t ho (hn _ _ (by omega) (by omega) ho)
      rw [← ih k (by omega) fun j o h1 h2 h3 => hn j o h1 (by omega) h3]
      exact this
  have keepSl' : ∀ (t : Tmp) (k r : Nat), k ≤ r → r ≤ ops.size → (∀ (j : Nat) (o : Oper), k ≤ j → j < r → ops[j]? = some o → o.dst ≠ some t) → (tr r).sl.getD t .undef = (tr k).sl.getD t .undef := by
    intro t k r h1 h2 h3
    obtain ⟨d, rfl⟩ : ∃ d, r = k + d := ⟨r - k, by omega⟩
    exact keepSl t d k h2 h3
  refine ⟨fun D μ0 a0 w0 hn0 hg0 hr0 => ?_⟩
  suffices H : ∀ (fuel : Nat) (listed : Array Bool) (s : S) (r : Nat) (μ : Mu) (a : Act) (w : World), listed.size = ops.size →
      ((List.range ops.size).countP fun j => !listed.getD j true) ≤ fuel →
      (∀ (k : Nat) (o : Oper) (e : Edge), ops[k]? = some o → listed.getD k false = true → e ∈ o.after → Region.binds .any e = true → listed.getD e.on false = true) →
      s.sl.length = (tr 0).sl.length →
      (∀ (k : Nat) (o : Oper) (d : Tmp), ops[k]? = some o → listed.getD k false = true → o.dst = some d → s.sl.getD d .undef = (tr (k + 1)).sl.getD d .undef) →
      (∀ (t : Tmp), (∀ (k : Nat) (o : Oper), ops[k]? = some o → listed.getD k false = true → o.dst ≠ some t) → s.sl.getD t .undef = (tr 0).sl.getD t .undef) →
      (r ∈ C ∨ r = ops.size) → (∀ c ∈ C, listed.getD c false = true ↔ c < r) → s.st = (tr r).st →
      n ≤ s.st.length → GOk D G μ s.st w → Rel D μ s a w → Fr μ0 (tr 0).st w0 μ s.st w → Ev n μ0 (tr 0).st μ s.st →
      wpAny P .any ops (fun e a' w' => Post D n μ0 (tr 0).st w0 (Q e) a' w') fuel listed a w by
    have hfr : Fr μ0 (tr 0).st w0 μ0 (tr 0).st { w0 with drawn := w0.drawn + 1 } := ⟨rfl, rfl, rfl, Nat.le_refl _, fun g hg => ⟨rfl, hg.2⟩⟩
    have hq : ∀ g, qd D μ0 (tr 0).st w0 g → qd D μ0 (tr 0).st { w0 with drawn := w0.drawn + 1 } g ∧ ({ w0 with drawn := w0.drawn + 1 } : World).heap[g]? = w0.heap[g]? := hfr.qd
    have hrel : Rel D μ0 (tr 0) a0 { w0 with drawn := w0.drawn + 1 } := by
      refine ⟨hr0.dfr, ⟨hr0.sl.1, fun j v hj => (hr0.sl.2 j v hj).keep (Ev.refl (Nat.le_refl _)) hq⟩, ⟨hr0.st.dom, fun i ver sz ro es hi => ?_, hr0.st.inj⟩⟩
      rcases hr0.st.row i ver sz ro es hi with h | ⟨g, m, cur, T, lo, hi', b1, b2, b3, b4, b5, b6, b7, b8, b9⟩
      · exact .inl h
      · exact .inr ⟨g, m, cur, T, lo, hi', b1, b2, b3, b4, b5, fun i cs j v x y => (b6 i cs j v x y).keep (Ev.refl (Nat.le_refl _)) hq, fun h => (hq g (b7 h)).1, b8, b9⟩
    have hf0 : ∀ k, (Array.replicate ops.size false).getD k false = false := fun k => by simp [Array.getD_eq_getD_getElem?, Array.getElem?_replicate]; split <;> rfl
    obtain ⟨q1, q2, q3⟩ := hnx 0 (Nat.zero_le _)
    refine H ops.size _ (tr 0) (nx C ops.size 0) μ0 a0 _ (by simp) (Nat.le_trans List.countP_le_length (by simp)) (fun k o e _ hl => by rw [hf0] at hl; cases hl) rfl (fun k o d _ hl => by rw [hf0] at hl; cases hl) (fun t _ => rfl) q2
      (fun c hc => ⟨fun hl => (by rw [hf0] at hl; cases hl), fun hl => absurd hl (q3 c hc (Nat.zero_le _))⟩) (keepSt' 0 _ q1 (hnxle 0 (Nat.zero_le _)) q3) hn0 (hg0.keep hfr) hrel hfr (Ev.refl hn)
  intro fuel
  induction fuel with
  | zero => ?_
  | succ fuel ih => ?_
  all_goals
    intro listed s r μ a w hls hcnt hdown hsl hlist hbase hr hch hst hns hg hrel hfr hev
    have lt_false : ∀ k, k < ops.size → listed.getD k true = listed.getD k false := fun k hk => by simp [Array.getD_eq_getD_getElem?, hls, hk]
    -- nothing left to do: all is done
    have hdone : Region.ready .any ops listed = [] → Post D n μ0 (tr 0).st w0 (Q .normal) a w := by
      intro hnil
      have hall : ∀ k, k < ops.size → listed.getD k false = true := by
        intro k
        induction k using Nat.strongRecOn with
        | ind k ihk =>
          intro hk
          rcases Bool.eq_false_or_eq_true (listed.getD k false) with h | h
          · exact h
          · obtain ⟨o, ho⟩ := hstep k hk
            have : k ∈ Region.ready .any ops listed := mem_ready.2 ⟨by rw [lt_false k hk]; exact h, o, ho, fun e he hb => ihk e.on (down k o e ho he hb) (by have := down k o e ho he hb; omega)⟩
            rw [hnil] at this; cases this
      have hrn : r = ops.size := by
        rcases hr with h | h
        · have := (hch r h).1 (hall r (hCn r h)); omega
        · exact h
      have : s = tr ops.size := by
        have e1 : s.st = (tr ops.size).st := by rw [hst, hrn]
        have e2 : s.sl = (tr ops.size).sl := by
          apply List.ext_getElem (by rw [hsl, slen _ (Nat.le_refl _)])
          intro t h1 h2
          have : s.sl.getD t .undef = (tr ops.size).sl.getD t .undef := by
            by_cases hx : ∃ (k : Nat) (o : Oper), ops[k]? = some o ∧ o.dst = some t
            · obtain ⟨k, o, ho, hd⟩ := hx
              have hk : k < ops.size := (Array.getElem?_eq_some_iff.1 ho).1
              rw [hlist k o t ho (hall k hk) hd]
              refine (keepSl' t (k + 1) ops.size (by omega) (Nat.le_refl _) fun j o' h1 h2 ho' hd' => ?_).symm
              have := dist k j o o' t ho ho' hd hd'
              omega
            · rw [hbase t fun k o ho _ hd => hx ⟨k, o, ho, hd⟩]
              exact (keepSl' t 0 ops.size (Nat.zero_le _) (Nat.le_refl _) fun j o' _ _ ho' hd' => hx ⟨j, o', ho', hd'⟩).symm
          simpa [List.getD_eq_getElem?_getD, h1, h2] using this
        revert e1 e2
        cases s; cases tr ops.size
        rintro rfl rfl
        rfl
      subst this
      exact ⟨_, μ, hQ, hrel, hfr, hev⟩
  · refine ⟨?_, ?_⟩
    · cases hc : Region.ready .any ops listed with
      | nil => rfl
      | cons i is =>
        have hi : i ∈ Region.ready .any ops listed := by rw [hc]; simp
        obtain ⟨h1, o, h2, _⟩ := mem_ready.1 hi
        have hlt : i < ops.size := (Array.getElem?_eq_some_iff.1 h2).1
        have h0 : ((List.range ops.size).countP fun j => !listed.getD j true) = 0 := Nat.le_zero.1 hcnt
        rw [List.countP_eq_zero] at h0
        have := h0 i (List.mem_range.2 hlt)
        rw [h1] at this
        simp at this
    · refine hdone ?_
      cases hc : Region.ready .any ops listed with
      | nil => rfl
      | cons i is =>
        have hi : i ∈ Region.ready .any ops listed := by rw [hc]; simp
        obtain ⟨h1, o, h2, _⟩ := mem_ready.1 hi
        have hlt : i < ops.size := (Array.getElem?_eq_some_iff.1 h2).1
        have h0 : ((List.range ops.size).countP fun j => !listed.getD j true) = 0 := Nat.le_zero.1 hcnt
        rw [List.countP_eq_zero] at h0
        have := h0 i (List.mem_range.2 hlt)
        rw [h1] at this
        simp at this
  · refine ⟨hdone, fun i hi => ?_⟩
    obtain ⟨hun, o, ho, haft⟩ := mem_ready.1 hi
    have hlt : i < ops.size := (Array.getElem?_eq_some_iff.1 ho).1
    have hunf : listed.getD i false = false := by rw [← lt_false i hlt]; exact hun
    have hafter : ∀ c, c ≠ i → aft (befs ops.toList) i c = true → listed.getD c false = true := fun c hci hc => by
      have := befs_ok (fun j => j = i ∨ listed.getD j false = true) _ ops.toList rfl (fun k o' e hk hT he hb => by
        have hk' : ops[k]? = some o' := by simpa using hk
        rcases hT with rfl | hT
        · rw [ho] at hk'; cases hk'
          exact .inr (haft e he hb)
        · exact .inr (hdown k o' e hk' hT he hb)) i c hc (.inl rfl)
      rcases this with h | h
      · exact absurd h hci
      · exact h
    have hbehind : ∀ c, aft (befs ops.toList) c i = true → listed.getD c false = false := fun c hc => by
      rcases Bool.eq_false_or_eq_true (listed.getD c false) with h | h
      · have := befs_ok (fun j => listed.getD j false = true) _ ops.toList rfl (fun k o' e hk hT he hb => hdown k o' e (by simpa using hk) hT he hb) c i hc h
        rw [hunf] at this; cases this
      · exact h
    obtain ⟨hdo, hput⟩ := htr i o ho
    -- what the operation reads is as in the text's order
    have hsame : ∀ t ∈ o.looksAt ops, (tr i).sl.getD t .undef = s.sl.getD t .undef := by
      intro t ht
      by_cases hx : ∃ (j : Nat) (o' : Oper), ops[j]? = some o' ∧ o'.dst = some t
      · obtain ⟨j, o', hj, hd⟩ := hx
        have hjl : j < ops.size := (Array.getElem?_eq_some_iff.1 hj).1
        have other : ∀ k o2, ops[k]? = some o2 → o2.dst = some t → k = j := fun k o2 hk hd2 => dist k j o2 o' t hk hj hd2 hd
        rcases data i o t j o' ho ht hj hd with rfl | ⟨hlt', ha⟩ | ⟨hlt', ha⟩
        · rw [hbase t fun k o2 hk hl hd2 => by have := other k o2 hk hd2; subst this; rw [hunf] at hl; cases hl]
          exact keepSl' t 0 j (Nat.zero_le _) (Nat.le_of_lt hlt) fun k o2 _ h2 hk hd2 => by have := other k o2 hk hd2; omega
        · rw [hlist j o' t hj (hafter j (by omega) ha) hd]
          exact keepSl' t (j + 1) i (by omega) (Nat.le_of_lt hlt) fun k o2 h1 h2 hk hd2 => by have := other k o2 hk hd2; omega
        · rw [hbase t fun k o2 hk hl hd2 => by have := other k o2 hk hd2; subst this; rw [hbehind k ha] at hl; cases hl]
          exact keepSl' t 0 i (Nat.zero_le _) (Nat.le_of_lt hlt) fun k o2 _ h2 hk hd2 => by have := other k o2 hk hd2; omega
      · rw [hbase t fun k o2 hk _ hd2 => hx ⟨k, o2, hk, hd2⟩]
        exact keepSl' t 0 i (Nat.zero_le _) (Nat.le_of_lt hlt) fun k o2 _ _ hk hd2 => hx ⟨k, o2, hk, hd2⟩
    -- the operation, here
    obtain ⟨r', hr', hch', hd2⟩ : ∃ r', (r' ∈ C ∨ r' = ops.size) ∧ (∀ c ∈ C, (listed.setIfInBounds i true).getD c false = true ↔ c < r') ∧ Doz P G own ops o ⟨(tr i).sl, (tr r).st⟩ (vs i) (tr r').st := by
      by_cases hiC : i ∈ C
      · have hir : i = r := by
          have h1 : ¬ i < r := fun h => by have := (hch i hiC).2 h; rw [hunf] at this; cases this
          rcases hr with h | h
          · rcases Nat.lt_or_ge r i with h2 | h2
            · have := hafter r (by omega) (chOrd r h i hiC h2)
              have := (hch r h).1 this; omega
            · omega
          · omega
        subst hir
        obtain ⟨q1, q2, q3⟩ := hnx (i + 1) (by omega)
        refine ⟨nx C ops.size (i + 1), q2, fun c hc => ?_, ?_⟩
        · by_cases hci : c = i
          · subst hci
            refine ⟨fun _ => by omega, fun _ => ?_⟩
            simp [Array.getD_eq_getD_getElem?, hls, hlt]
          · rw [getD_set_ne false (Ne.symm hci), hch c hc]
            refine ⟨fun h => by omega, fun h => ?_⟩
            rcases Nat.lt_or_ge c i with h' | h'
            · exact h'
            · exact absurd h (q3 c hc (by omega))
        · rw [← keepSt' (i + 1) _ q1 (hnxle _ (by omega)) q3]
          exact hdo
      · refine ⟨r, hr, fun c hc => ?_, ?_⟩
        · have hci : c ≠ i := fun e => hiC (e ▸ hc)
          rw [getD_set_ne false (Ne.symm hci)]
          exact hch c hc
        · rcases hread i hlt hiC r hr with h | h | ⟨c, hc, ⟨h1, h2⟩ | ⟨h1, h2⟩⟩
          · obtain ⟨q1, q2, q3⟩ := hnx i (Nat.le_of_lt hlt)
            have e1 := keepSt' i _ q1 (hnxle i (Nat.le_of_lt hlt)) q3
            rw [h, ← e1]
            have := hC i hlt hiC
            rw [this] at hdo
            exact hdo
          · exact hL i r h o ho
          · exact absurd ((hch c hc).1 (hafter c (fun e => hiC (e ▸ hc)) h1)) h2
          · have := (hch c hc).2 h2
            rw [hbehind c h1] at this; cases this
    have hd3 : Doz P G own ops o s (vs i) (tr r').st := by
      have := hd2.congr (sl2 := s.sl) hsame
      rw [← hst] at this
      exact this
    refine hd3.step ho hns hg hrel fun μ' a' w' hg' hrel' hfr' hev' => ?_
    have hdst : ∀ d, o.dst = some d → (s.put o.dst (vs i) (tr r').st).sl.getD d .undef = (tr (i + 1)).sl.getD d .undef := by
      intro d hd
      rw [hput]
      simp only [S.put, hd, List.getD_eq_getElem?_getD]
      by_cases hdl : d < s.sl.length
      · rw [getElem?_set_eq' hdl, getElem?_set_eq' (by rw [slen i (Nat.le_of_lt hlt), ← hsl]; exact hdl)]
      · rw [List.getElem?_eq_none (by simpa using hdl), List.getElem?_eq_none (by rw [List.length_set, slen i (Nat.le_of_lt hlt), ← hsl]; exact Nat.le_of_not_lt hdl)]
    have hoth : ∀ t, o.dst ≠ some t → (s.put o.dst (vs i) (tr r').st).sl.getD t .undef = s.sl.getD t .undef := by
      intro t ht
      simp only [S.put]
      split
      · rename_i d hd
        have : d ≠ t := fun e => ht (by rw [hd, e])
        simp only [List.getD_eq_getElem?_getD]
        rw [getElem?_set_ne' this]
      · rfl
    refine ih _ (s.put o.dst (vs i) (tr r').st) r' μ' a' w' (by simpa using hls) ?_ ?_ ?_ ?_ ?_ hr' hch' rfl (Nat.le_trans hns hev'.1) hg' hrel' (hfr.trans hfr') (hev.trans (hev'.mono hns))
    · have := cnt_lt (l := List.range ops.size) (i := i) (p := fun j => !listed.getD j true) (q := fun j => !(listed.setIfInBounds i true).getD j true) (List.mem_range.2 hlt) (by simp only [hun]; rfl) (by simp [Array.getD_eq_getD_getElem?, hls, hlt]) (fun j hj => by
        by_cases hij : i = j
        · subst hij; simp [Array.getD_eq_getD_getElem?, hls, hlt] at hj
        · rwa [getD_set_ne true hij] at hj)
      omega
    · intro k o' e hk hl he hb
      by_cases hik : i = k
      · subst hik
        rw [ho] at hk; cases hk
        exact getD_set_true (haft e he hb)
      · rw [getD_set_ne false hik] at hl
        exact getD_set_true (hdown k o' e hk hl he hb)
    · rw [← hsl]; simp only [S.put]; split <;> simp
    · intro k o' d hk hl hd
      by_cases hik : i = k
      · subst hik
        rw [ho] at hk; cases hk
        exact hdst d hd
      · rw [getD_set_ne false hik] at hl
        rw [hoth d fun e => hik (dist i k o o' d ho hk e hd)]
        exact hlist k o' d hk hl hd
    · intro t ht
      rw [hoth t (ht i o ho (by simp [Array.getD_eq_getD_getElem?, hls, hlt]))]
      refine hbase t fun k o' hk hl => ?_
      by_cases hik : i = k
      · subst hik; rw [hunf] at hl; cases hl
      · exact ht k o' hk (by rw [getD_set_ne false hik]; exact hl)
theorem any_order {n : Nat} {id : Nat} {ops : Array Oper} {C : List Nat} {L : List (Nat × Nat)} (hm : P.follows .mixedOrders = true) (ho : ordOK ops C L = true) {tr : Nat → S} {vs : Nat → V}
    (htr : ∀ (k : Nat) (o : Oper), ops[k]? = some o → Doz P G own ops o (tr k) (vs k) (tr (k + 1)).st ∧ tr (k + 1) = (tr k).put o.dst (vs k) (tr (k + 1)).st)
    (hC : ∀ k, k < ops.size → k ∉ C → (tr (k + 1)).st = (tr k).st)
    (hL : ∀ k r, (k, r) ∈ L → ∀ (o : Oper), ops[k]? = some o → Doz P G own ops o ⟨(tr k).sl, (tr r).st⟩ (vs k) (tr r).st)
    {Q : Exit → S → Prop} (hQ : Q .normal (tr ops.size)) (hn : n ≤ (tr 0).st.length) : W P G n (.region id ops true) Q (tr 0) := (any_orderA ho htr hC hL hQ hn).w id hm
end
end Go.Proofs.YtdbmfnhbgacldaaDoor.Am
