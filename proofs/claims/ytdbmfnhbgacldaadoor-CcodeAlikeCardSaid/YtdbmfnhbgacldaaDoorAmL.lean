/- One operation of the model on an abstract state, whichever it is. -/
import Derived.Test.YtdbmfnhbgacldaaDoorAmLa
namespace Go.Proofs.YtdbmfnhbgacldaaDoor.Am
set_option autoImplicit false
set_option linter.unusedVariables false
set_option linter.unusedSimpArgs false

def builtinA (P : Program) (st : List Ob) (b : Builtin) (ts : List TypeId) (xs : List V) : Option (Option Prop × V × List Ob) :=
  match b, ts, xs with
  | .append, [t, t1], [s, x] => (appA P st t t1 s x).map fun (p, v) => (some p, v)
  | .len, [t], [x] => (lenA P st t x).map fun v => (none, v, st)
  | .max, _, xs => (mmA true xs).map fun v => (none, v, st)
  | .min, _, xs => (mmA false xs).map fun v => (none, v, st)
  | _, _, _ => none

def nilCheckA (st : List Ob) : V → Option V
  | .ptr id ver e j => if (V.ptr id ver e j).known st = true then some (.ptr id ver e j) else none
  | .iptr cs j => some (.iptr cs j)
  | .fn (.func f) a b => some (.fn (.func f) a b)
  | _ => none

def opA0 (P : Program) (own : Bool) (st : List Ob) (ρ : Operand → V) : Op → Option (Option Prop × V × List Ob)
  | .move x => some (none, ρ x, st)
  | .assign x => some (none, ρ x, st)
  | .pick c a b => match ρ c with | .i (.bool t) => some (none, (if t = true then ρ a else ρ b), st) | _ => none
  | .alloc e => (allocA P st e).map fun (v, st') => (none, v, st')
  | .box _ x => (boxA st (ρ x)).map fun (v, st') => (none, v, st')
  | .build t parts => (buildA P st t (parts.toList.map fun (i, x) => (i, ρ x))).map fun (p, v) => (some p, v, st)
  | .buildSlice t len parts => (litA P own st t len (parts.toList.map fun (i, x) => (i, ρ x))).map fun (p, v) => (some p, v)
  | .load t a => (loadA P st t (ρ a)).map fun (p, v) => (some p, v, st)
  | .store t a x => (storeA P st t (ρ a) (ρ x)).map fun (p, st') => (some p, .tup [], st')
  | .nilCheck x => (nilCheckA st (ρ x)).map fun v => (none, v, st)
  | .binOp op t x y _ => (binA P st op t (ρ x) (ρ y)).map fun (p, v) => (p, v, st)
  | .unOp op _ x => (unA op (ρ x)).map fun v => (none, v, st)
  | .convert src dst x => convA P own st src dst (ρ x)
  | .makeFunc fn first captured => some (none, .fn fn (first.toList.map ρ) (captured.toList.map ρ), st)
  | .makeSlice t l c => (makeA P st t (ρ l) (ρ c)).map fun (p, v) => (some p, v)
  | .slice t x lo hi none => (sliceA P st t (ρ x) (lo.map ρ) (hi.map ρ)).map fun (p, v) => (some p, v, st)
  | .fieldAddr t x f => (fieldAddrA P st t (ρ x) f).map fun v => (none, v, st)
  | .field t x f => (fieldA P t (ρ x) f).map fun (p, v) => (some p, v, st)
  | .indexAddr t x i => (indexAddrA P st t (ρ x) (ρ i)).map fun (p, v) => (some p, v, st)
  | .index t x i => (indexA P t (ρ x) (ρ i)).map fun (p, v) => (some p, v, st)
  | .extract x i => (extractA (ρ x) i).map fun v => (none, v, st)
  | .call { callee := .builtin b, args, argTypes } => (builtinA P st b argTypes.toList (args.toList.map ρ)).map fun (p, v) => (p, v)
  | _ => none
def opA (P : Program) (own : Bool) (st : List Ob) (ρ : Operand → V) (op : Op) : Option (Option Prop × V × List Ob) := match arrOpA P st ρ op with | some r => some r | none => opA0 P own st ρ op
section
variable {P : Program} {D : Nat → Prop} {μ : Mu} {st : List Ob} {w : World}

theorem parts_ok {Q : Nat → Prop} {ρ : Operand → V} {ρ' : Operand → Value} (hr : ∀ x, vrel μ st Q w (ρ x) (ρ' x)) (parts : Array (Nat × Operand)) :
    (parts.map fun (i, x) => (i, ρ' x)).toList.map (·.1) = (parts.toList.map fun (i, x) => (i, ρ x)).map (·.1) ∧
    ∀ (k : Nat) (x : Nat × V) (y : Nat × Value), (parts.toList.map fun (i, x) => (i, ρ x))[k]? = some x → (parts.map fun (i, x) => (i, ρ' x)).toList[k]? = some y → vrel μ st Q w x.2 y.2 := by
  constructor
  · simp
  · intro k x y hx hy
    simp only [Array.toList_map, List.getElem?_map, Option.map_eq_some_iff] at hx hy
    obtain ⟨a, ha, rfl⟩ := hx
    obtain ⟨b, hb, rfl⟩ := hy
    rw [ha] at hb
    cases hb
    exact hr a.2
theorem args_ok {Q : Nat → Prop} {ρ : Operand → V} {ρ' : Operand → Value} (hr : ∀ x, vrel μ st Q w (ρ x) (ρ' x)) (args : Array Operand) : vrels μ st Q w (args.toList.map ρ) (args.map ρ') := by
  refine ⟨by simp, fun j v hj => ?_⟩
  simp only [List.getElem?_map, Option.map_eq_some_iff, Array.getElem?_toList] at hj
  obtain ⟨a, ha, rfl⟩ := hj
  rw [Array.getD_eq_getD_getElem?, Array.getElem?_map, ha]
  exact hr a
theorem opt_ok {Q : Nat → Prop} {ρ : Operand → V} {ρ' : Operand → Value} (hr : ∀ x, vrel μ st Q w (ρ x) (ρ' x)) (o : Option Operand) : optRel μ st Q w (o.map ρ) (o.map ρ') := by
  cases o with
  | none => trivial
  | some x => exact hr x

theorem builtinA_ok (hs : srel D μ st w) {b : Builtin} {ts : Array TypeId} {ty : TypeId} {cs : Array Bool} {xs : List V} {xs' : Array Value} {p : Option Prop} {v : V} {st' : List Ob} (h : builtinA P st b ts.toList xs = some (p, v, st')) (hp : sd p)
    (hx : vrels μ st (qd D μ st w) w xs xs') : Op1 P D μ st w (Go.builtin b ts ty cs xs') v st' := by
  unfold builtinA at h
  split at h
  · rename_i t t1 s x hts
    have hts' : ts = #[t, t1] := by rw [← Array.toArray_toList (xs := ts), hts]
    subst hts'
    obtain ⟨h1, h2⟩ := hx
    obtain ⟨a, b, rfl⟩ : ∃ a b, xs' = #[a, b] := by
      obtain ⟨l⟩ := xs'
      match l, h1 with
      | [a, b], _ => exact ⟨a, b, rfl⟩
    simp only [Option.map_eq_some_iff] at h
    obtain ⟨⟨p', v'⟩, hv, h3⟩ := h
    cases h3
    exact Op1.of (appA_ok (P := P) hs hv (hp _ rfl) (h2 0 _ rfl) (h2 1 _ rfl))
  · rename_i t x hts
    have hts' : ts = #[t] := by rw [← Array.toArray_toList (xs := ts), hts]
    subst hts'
    simp only [Option.map_eq_some_iff] at h
    obtain ⟨v', hv, h3⟩ := h
    cases h3
    obtain ⟨h1, h2⟩ := hx
    obtain ⟨a, rfl⟩ : ∃ a, xs' = #[a] := by
      obtain ⟨l⟩ := xs'
      match l, h1 with
      | [a], _ => exact ⟨a, rfl⟩
    exact Op1.of (lenA_ok (P := P) hs hv (h2 0 _ rfl))
  · simp only [Option.map_eq_some_iff] at h
    obtain ⟨v', hv, h3⟩ := h
    cases h3
    exact Op1.of (by simpa using mmA_ok (P := P) (big := true) (ts := ts) (ty := ty) hs hv hx)
  · simp only [Option.map_eq_some_iff] at h
    obtain ⟨v', hv, h3⟩ := h
    cases h3
    exact Op1.of (by simpa using mmA_ok (P := P) (big := false) (ts := ts) (ty := ty) hs hv hx)
  · cases h

theorem opA0_ok (hs : srel D μ st w) {ρ : Operand → V} {ρ' : Operand → Value} (hr : ∀ x, vrel μ st (qd D μ st w) w (ρ x) (ρ' x)) {own : Bool} (o : Oper) {p : Option Prop} {v : V} {st' : List Ob} (h : opA0 P own st ρ o.op = some (p, v, st')) (hp : sd p) :
    Op1 P D μ st w (execOp ρ' o) v st' := by
  unfold execOp
  cases ho : o.op <;> rw [ho] at h <;> simp only [opA0, reduceCtorEq] at h
  case move x => cases h; exact ⟨ρ' x, μ, w, .inl (by simp), hr x, hs, Fr.refl _ _ _, Ev.refl (Nat.le_refl _)⟩
  case assign x => cases h; exact ⟨ρ' x, μ, w, .inl (by simp), hr x, hs, Fr.refl _ _ _, Ev.refl (Nat.le_refl _)⟩
  case pick c a b =>
    split at h
    · rename_i t hc
      cases h
      have hcv := hr c
      rw [hc] at hcv
      have e : ρ' c = .bool t := by
        generalize ρ' c = y at hcv
        cases hcv with | i hcv => cases hcv; rfl
      refine ⟨if t = true then ρ' a else ρ' b, μ, w, .inl ?_, ?_, hs, Fr.refl _ _ _, Ev.refl (Nat.le_refl _)⟩
      · simp [e, asBool]
      · cases t
        · exact hr b
        · exact hr a
    · cases h
  case alloc e =>
    simp only [Option.map_eq_some_iff] at h
    obtain ⟨⟨v', s'⟩, h1, h2⟩ := h
    cases h2
    exact Op1.of (allocA_ok (P := P) hs h1)
  case box e x =>
    simp only [Option.map_eq_some_iff] at h
    obtain ⟨⟨v', s'⟩, h1, h2⟩ := h
    cases h2
    exact Op1.of (boxA_ok (P := P) hs h1 (hr x))
  case build t parts =>
    simp only [Option.map_eq_some_iff] at h
    obtain ⟨⟨p', v'⟩, h1, h2⟩ := h
    cases h2
    exact Op1.of (buildA_ok (P := P) hs h1 (hp _ rfl) (parts_ok hr parts).1 (parts_ok hr parts).2)
  case buildSlice t len parts =>
    simp only [Option.map_eq_some_iff] at h
    obtain ⟨⟨p', v'⟩, h1, h2⟩ := h
    cases h2
    exact Op1.of (litA_ok (P := P) hs h1 (hp _ rfl) (parts_ok hr parts).1 (parts_ok hr parts).2)
  case load t a =>
    simp only [Option.map_eq_some_iff] at h
    obtain ⟨⟨p', v'⟩, h1, h2⟩ := h
    cases h2
    exact Op1.of (loadA_ok (P := P) hs h1 (hp _ rfl) (hr a))
  case store t a x =>
    simp only [Option.map_eq_some_iff] at h
    obtain ⟨⟨p', s'⟩, h1, h2⟩ := h
    cases h2
    exact Op1.ofU (storeA_ok (P := P) hs h1 (hp _ rfl) (hr a) (hr x))
  case nilCheck x =>
    simp only [Option.map_eq_some_iff] at h
    obtain ⟨v', h1, h2⟩ := h
    cases h2
    have hx := hr x
    unfold nilCheckA at h1
    split at h1
    · rename_i id ver e j he
      rw [he] at hx
      split at h1
      · rename_i hk
        cases h1
        have hxx := hx
        cases hx with | ptr hx =>
        obtain ⟨sz, ro, es, hid⟩ := known_ptr hk
        obtain ⟨_, g, m, _, e1⟩ := (hx.2 _ _ _ _ hid).2 rfl
        refine ⟨ρ' x, μ, w, .inl ?_, hxx, hs, Fr.refl _ _ _, Ev.refl (Nat.le_refl _)⟩
        simp [e1]
      · cases h1
    · rename_i cs j he
      rw [he] at hx
      cases h1
      have hxx := hx
      generalize hy : ρ' x = y at hx
      cases hx
      exact ⟨ρ' x, μ, w, .inl (by simp [hy]), hxx, hs, Fr.refl _ _ _, Ev.refl (Nat.le_refl _)⟩
    · rename_i f a b he
      rw [he] at hx
      cases h1
      have hxx := hx
      generalize hy : ρ' x = y at hx
      cases hx
      exact ⟨ρ' x, μ, w, .inl (by simp [hy]), hxx, hs, Fr.refl _ _ _, Ev.refl (Nat.le_refl _)⟩
    · cases h1
  case binOp op t x y yt =>
    simp only [Option.map_eq_some_iff] at h
    obtain ⟨⟨p', v'⟩, h1, h2⟩ := h
    cases h2
    exact Op1.of (binA_ok (P := P) hs h1 hp (hr x) (hr y))
  case unOp op t x =>
    simp only [Option.map_eq_some_iff] at h
    obtain ⟨v', h1, h2⟩ := h
    cases h2
    exact Op1.of (unA_ok (P := P) hs h1 (hr x))
  case convert src dst x => exact Op1.of (convA_ok (P := P) hs h hp (hr x))
  case makeFunc fn first captured =>
    cases h
    refine ⟨.func fn (first.map ρ') (captured.map ρ'), μ, w, .inl (by simp [Instr.makeFunc]), ?_, hs, Fr.refl _ _ _, Ev.refl (Nat.le_refl _)⟩
    exact .fn fn _ _ _ _ (args_ok hr first).1 (args_ok hr captured).1 (args_ok hr first).2 (args_ok hr captured).2
  case makeSlice t l c =>
    simp only [Option.map_eq_some_iff] at h
    obtain ⟨⟨p', v'⟩, h1, h2⟩ := h
    cases h2
    exact Op1.of (makeA_ok (P := P) hs h1 (hp _ rfl) (hr l) (hr c))
  case slice t x lo hi mx =>
    cases mx with
    | some m => simp [opA0] at h
    | none =>
      simp only [opA0, Option.map_eq_some_iff] at h
      obtain ⟨⟨p', v'⟩, h1, h2⟩ := h
      cases h2
      exact Op1.of (sliceA_ok (P := P) hs h1 (hp _ rfl) (hr x) (opt_ok hr lo) (opt_ok hr hi))
  case fieldAddr t x f =>
    simp only [Option.map_eq_some_iff] at h
    obtain ⟨v', h1, h2⟩ := h
    cases h2
    exact Op1.of (fieldAddrA_ok (P := P) hs h1 (hr x))
  case field t x f =>
    simp only [Option.map_eq_some_iff] at h
    obtain ⟨⟨p', v'⟩, h1, h2⟩ := h
    cases h2
    exact Op1.of (fieldA_ok (P := P) hs h1 (hp _ rfl) (hr x))
  case indexAddr t x i =>
    simp only [Option.map_eq_some_iff] at h
    obtain ⟨⟨p', v'⟩, h1, h2⟩ := h
    cases h2
    exact Op1.of (indexAddrA_ok (P := P) hs h1 (hp _ rfl) (hr x) (hr i))
  case index t x i =>
    simp only [Option.map_eq_some_iff] at h
    obtain ⟨⟨p', v'⟩, h1, h2⟩ := h
    cases h2
    exact Op1.of (indexA_ok (P := P) hs h1 (hp _ rfl) (hr x) (hr i))
  case extract x i =>
    simp only [Option.map_eq_some_iff] at h
    obtain ⟨v', h1, h2⟩ := h
    cases h2
    exact Op1.of (extractA_ok (P := P) hs h1 (hr x))
  case call c =>
    obtain ⟨callee, args, argTypes⟩ := c
    cases callee with
    | value f => simp [opA0] at h
    | invoke r m => simp [opA0] at h
    | builtin b =>
      simp only [opA0, Option.map_eq_some_iff] at h
      obtain ⟨⟨p', v', s'⟩, h, h2⟩ := h
      cases h2
      have key := fun cs => builtinA_ok (P := P) (cs := cs) (ty := o.type) hs h hp (args_ok hr args)
      exact key _
theorem opA_ok (hs : srel D μ st w) {ρ : Operand → V} {ρ' : Operand → Value} (hr : ∀ x, vrel μ st (qd D μ st w) w (ρ x) (ρ' x)) {own : Bool} (o : Oper) {p : Option Prop} {v : V} {st' : List Ob} (h : opA P own st ρ o.op = some (p, v, st')) (hp : sd p) :
    Op1 P D μ st w (execOp ρ' o) v st' := by
  unfold opA at h
  split at h
  · rename_i r hr1
    cases h
    exact arrOpA_ok hs hr o hr1 hp
  · exact opA0_ok hs hr o h hp
end
/-- a slice held against nil: of an empty one nobody knows whether it is nil -/
def isSliceT (P : Program) (t : TypeId) : Bool := match P.underlying t with | some (.slice _) => true | _ => false
def nilA (P : Program) (ρ : Operand → V) : Op → Option (Bool × List (List I))
  | .binOp .eql t x y _ => if isSliceT P t = true then match ρ x, ρ y with | .i (.sl es), .nils => some (false, es) | _, _ => none else none
  | .binOp .neq t x y _ => if isSliceT P t = true then match ρ x, ρ y with | .i (.sl es), .nils => some (true, es) | _, _ => none else none
  | _ => none
section
variable {P : Program} {D : Nat → Prop} {μ : Mu} {st : List Ob} {w : World}
theorem isSliceT_ok {t : TypeId} (h : isSliceT P t = true) : ∃ e, P.underlying t = some (.slice e) := by
  unfold isSliceT at h; split at h
  · exact ⟨_, by assumption⟩
  · cases h
theorem slice_nil {t e : TypeId} (hu : P.underlying t = some (.slice e)) (a : Option Addr) (n c d : Nat) : (Op.equalIn (d + 1) t (.slice a n c) (.slice none 0 0)).run P w = .ok a.isNone w := by
  cases a <;> simp [Op.equalIn, run_underlying hu]
theorem nilA_ok (hs : srel D μ st w) {ρ : Operand → V} {ρ' : Operand → Value} (hr : ∀ x, vrel μ st (qd D μ st w) w (ρ x) (ρ' x)) (o : Oper) {neg : Bool} {es : List (List I)} (h : nilA P ρ o.op = some (neg, es)) :
    ∃ b, (es ≠ [] → b = neg) ∧ Op1 P D μ st w (execOp ρ' o) (.i (.bool b)) st := by
  have key : ∀ {t e : TypeId} {x' y' : Value}, P.underlying t = some (.slice e) → vrel μ st (qd D μ st w) w (.i (.sl es)) x' → vrel μ st (qd D μ st w) w .nils y' →
      ∃ b, (es ≠ [] → b = false) ∧ ∀ (op : BinOp) (ox oy : Operand), (Op.equal t x' y').run P w = .ok b w ∧ (eqGuard op t ox oy x' y').run P w = .ok () w ∧ Go.binOp .eql t x' y' = (do pure (.bool (← Op.equal t x' y'))) ∧ Go.binOp .neq t x' y' = (do pure (.bool (!(← Op.equal t x' y')))) := by
    intro t e x' y' hu hx hy
    cases hy
    cases hx with | i hx =>
    cases hx with
    | sl0 a c => exact ⟨a.isNone, fun h => absurd rfl h, fun op ox oy => ⟨slice_nil hu a 0 c 9999, by cases op <;> rfl, rfl, rfl⟩⟩
    | sl es sz g off c xs hQ hc hs hw hr => exact ⟨false, fun _ => rfl, fun op ox oy => ⟨slice_nil hu (some ⟨g, off, none⟩) es.length c 9999, by cases op <;> rfl, rfl, rfl⟩⟩
  unfold execOp
  cases ho : o.op <;> rw [ho] at h <;> simp only [nilA, reduceCtorEq] at h
  case binOp op t x y yt =>
    cases op <;> simp only [nilA, reduceCtorEq] at h
    case eql =>
      split at h
      · rename_i ht
        obtain ⟨e, hu⟩ := isSliceT_ok ht
        split at h
        · rename_i es' hx hy
          simp only [Option.some.injEq, Prod.mk.injEq] at h
          obtain ⟨rfl, rfl⟩ := h
          have vx := hr x
          have vy := hr y
          rw [hx] at vx
          rw [hy] at vy
          obtain ⟨b, hb, hk⟩ := key hu vx vy
          obtain ⟨e1, e2, e3, e4⟩ := hk .eql x y
          exact ⟨b, hb, Op1.of (Does.same hs (y := .bool b) (by simp [e2, e3, e1]) (.i (.bool _)))⟩
        · cases h
      · cases h
    case neq =>
      split at h
      · rename_i ht
        obtain ⟨e, hu⟩ := isSliceT_ok ht
        split at h
        · rename_i es' hx hy
          simp only [Option.some.injEq, Prod.mk.injEq] at h
          obtain ⟨rfl, rfl⟩ := h
          have vx := hr x
          have vy := hr y
          rw [hx] at vx
          rw [hy] at vy
          obtain ⟨b, hb, hk⟩ := key hu vx vy
          obtain ⟨e1, e2, e3, e4⟩ := hk .neq x y
          exact ⟨!b, fun hne => by rw [hb hne]; rfl, Op1.of (Does.same hs (y := .bool !b) (by simp [e2, e4, e1]) (.i (.bool _)))⟩
        · cases h
      · cases h
end
end Go.Proofs.YtdbmfnhbgacldaaDoor.Am
