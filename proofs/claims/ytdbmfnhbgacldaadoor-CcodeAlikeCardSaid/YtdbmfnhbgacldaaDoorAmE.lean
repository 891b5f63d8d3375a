/- Operations of the model on abstract states: values and rows that are made. -/
import Derived.Test.YtdbmfnhbgacldaaDoorAmD
import Derived.Laws.Tables
namespace Go.Proofs.YtdbmfnhbgacldaaDoor.Am
set_option autoImplicit false
set_option linter.unusedVariables false
set_option linter.unusedSimpArgs false

/-- constants -/
def ofC : Value → V
  | .int k n => .i (.int k n)
  | .bool b => .i (.bool b)
  | .string s => .i (.str s)
  | .pointer none => .i .nilp
  | .slice none 0 0 => .nils
  | .nilFunc => .nilf
  | _ => .undef

section
variable {P : Program} {D : Nat → Prop} {μ : Mu} {st : List Ob} {w : World}

theorem ofC_ok {Q : Nat → Prop} (y : Value) : vrel μ st Q w (ofC y) y := by
  unfold ofC
  split
  · exact .i (.int _ _)
  · exact .i (.bool _)
  · exact .i (.str _)
  · exact .i .nilp
  · exact .nils
  · exact .nilf
  · exact .undef _

/-- a value that is a struct or an array, or of one known cell -/
def V.shaped (st : List Ob) : V → Bool
  | .agg _ => true
  | v => v.known st
theorem shaped_ok {Q : Nat → Prop} {x : V} {y : Value} (h : vrel μ st Q w x y) (hk : x.shaped st = true) : vrels μ st Q w x.cells y.cells := by
  cases x with
  | agg cs => cases h with | agg cs cs' h1 h2 => exact ⟨h1, h2⟩
  | undef => simp [V.shaped, V.known] at hk
  | tup => simp [V.shaped, V.known] at hk
  | _ => exact let ⟨a, b, _⟩ := cells_ok h (by simpa [V.cells, knownAll, V.shaped] using hk); ⟨a, b⟩

theorem fold_put : ∀ (l : List Value) (k off : Nat) (cs : Array Value), off + k + l.length ≤ cs.size →
    ((l.zipIdx k).foldl (fun cs (x : Value × Nat) => cs.setIfInBounds (off + x.2) x.1) cs).size = cs.size ∧
    ∀ j, ((l.zipIdx k).foldl (fun cs (x : Value × Nat) => cs.setIfInBounds (off + x.2) x.1) cs).getD j Go.undef = if off + k ≤ j ∧ j < off + k + l.length then l.getD (j - (off + k)) Go.undef else cs.getD j Go.undef
  | [], k, off, cs, _ => ⟨rfl, fun j => by rw [if_neg (by simp only [List.length_nil]; omega)]; rfl⟩
  | x :: l, k, off, cs, h => by
    simp only [List.length_cons] at h
    obtain ⟨h1, h2⟩ := fold_put l (k + 1) off (cs.setIfInBounds (off + k) x) (by simp; omega)
    simp only [List.zipIdx_cons, List.foldl_cons]
    refine ⟨by rw [h1]; simp, fun j => ?_⟩
    rw [h2 j]
    by_cases hj : j = off + k
    · subst hj
      rw [if_neg (by omega), if_pos (by simp only [List.length_cons]; omega)]
      have : off + k < cs.size := by omega
      simp [Array.getD_eq_getD_getElem?, this]
    · by_cases hj2 : off + k ≤ j ∧ j < off + k + (x :: l).length
      · rw [if_pos (by simp at hj2; omega), if_pos hj2]
        obtain ⟨d, rfl⟩ : ∃ d, j = off + k + (d + 1) := ⟨j - (off + k) - 1, by omega⟩
        have e1 : off + k + (d + 1) - (off + (k + 1)) = d := by omega
        have e2 : off + k + (d + 1) - (off + k) = d + 1 := by omega
        rw [e1, e2]; rfl
      · rw [if_neg (by simp at hj2 ⊢; omega), if_neg hj2]
        simp only [Array.getD_eq_getD_getElem?, Array.getElem?_setIfInBounds]
        rw [if_neg (by omega)]

/-- parts are put in their places -/
def fillA (st : List Ob) (place : Nat → Option (Nat × Nat)) (cells : List V) : List (Nat × V) → Option (Bool × List V)
  | [] => some (true, cells)
  | (i, v) :: rest => match place i with
    | none => none
    | some (off, size) => if v.shaped st = true then (fillA st place (putCells cells off v.cells) rest).map fun (p, cs) => (Nat.beq v.cells.length size && Nat.ble (off + size) cells.length && p, cs) else none

theorem fillA_ok {Q : Nat → Prop} {place : Nat → Option (Nat × Nat)} : ∀ (parts : List (Nat × V)) (parts' : List (Nat × Value)) (cells : List V) (cells' : Array Value) (p : Bool) (out : List V), fillA st place cells parts = some (p, out) → p = true →
    vrels μ st Q w cells cells' → parts'.map (·.1) = parts.map (·.1) → (∀ (k : Nat) (x : Nat × V) (y : Nat × Value), parts[k]? = some x → parts'[k]? = some y → vrel μ st Q w x.2 y.2) →
    ∃ out', Instr.fill place cells' parts' = some out' ∧ vrels μ st Q w out out'
  | [], parts', cells, cells', p, out, h, hp, hc, hm, hr => by
    simp only [fillA, Option.some.injEq, Prod.mk.injEq] at h
    obtain ⟨rfl, rfl⟩ := h
    obtain rfl : parts' = [] := by simpa using hm
    exact ⟨cells', rfl, hc⟩
  | (i, v) :: rest, parts', cells, cells', p, out, h, hp, hc, hm, hr => by
    cases parts' with
    | nil => simp at hm
    | cons y rest' =>
      obtain ⟨i', v'⟩ := y
      simp only [List.map_cons, List.cons.injEq] at hm
      obtain ⟨rfl, hm⟩ := hm
      simp only [fillA] at h
      cases hpl : place i' with
      | none => simp [hpl] at h
      | some os =>
        obtain ⟨off, size⟩ := os
        simp only [hpl] at h
        split at h
        · rename_i hsh
          simp only [Option.map_eq_some_iff] at h
          obtain ⟨⟨p', out0⟩, h1, h2⟩ := h
          simp only [Prod.mk.injEq] at h2
          obtain ⟨rfl, rfl⟩ := h2
          simp only [Bool.and_eq_true] at hp
          obtain ⟨⟨q1, q2⟩, q3⟩ := hp
          have q1 := Nat.eq_of_beq_eq_true q1
          have q2 := Nat.le_of_ble_eq_true q2
          have hv := hr 0 _ _ rfl rfl
          obtain ⟨c1, c2⟩ := shaped_ok hv hsh
          simp only at c1 c2
          have hfit : off + v.cells.length ≤ cells.length := by omega
          obtain ⟨f1, f2⟩ := fold_put v'.cells.toList 0 off cells' (by simp only [Array.length_toList]; rw [c1, hc.1]; omega)
          obtain ⟨out', e1, e2⟩ := fillA_ok rest rest' (putCells cells off v.cells) ((v'.cells.toList.zipIdx 0).foldl (fun cs (x : Value × Nat) => cs.setIfInBounds (off + x.2) x.1) cells') p' out0 h1 q3
            ⟨by rw [f1, putCells_length hfit]; exact hc.1, fun k u hk => by
              rw [f2 k]
              rw [putCells_get hfit] at hk
              simp only [Nat.add_zero, Array.length_toList, c1]
              by_cases hkk : off ≤ k ∧ k < off + v.cells.length
              · rw [if_pos hkk] at hk ⊢
                have := c2 _ _ hk
                rw [Array.getD_eq_getD_getElem?, ← Array.getElem?_toList] at this
                exact this
              · rw [if_neg hkk] at hk ⊢
                exact hc.2 k u hk⟩ hm (fun k x y hx hy => hr (k + 1) x y hx hy)
          refine ⟨out', ?_, e2⟩
          unfold Instr.fill
          rw [hpl]
          simp only
          rw [if_neg (by simp only [c1, q1, hc.1, ne_eq, not_true, decide_false, Bool.false_or, decide_eq_true_eq]; omega)]
          rw [← e1]
          congr 1
          rw [← Array.foldl_toList, Array.toList_zipIdx]
        · cases h

def placesA (P : Program) (t : TypeId) : Option (List V × (Nat → Option (Nat × Nat))) :=
  match P.info? t, P.underlying t with
  | some it, some (.array _ e) => match it.zero, P.info? e with
    | some z, some ie => some (z.cells.toList.map ofC, fun i => some (i * ie.size, ie.size))
    | _, _ => none
  | some it, some (.struct fields) => match it.zero, fields.toList.mapM (fun f => (P.info? f.type).map fun i => (f.offset, i.size)) with
    | some z, some places => some (z.cells.toList.map ofC, (places.toArray[·]?))
    | _, _ => none
  | _, _ => none

theorem zero_ok {Q : Nat → Prop} (cs : Array Value) : vrels μ st Q w (cs.toList.map ofC) cs :=
  ⟨by simp, fun j v hj => by
    simp only [List.getElem?_map, Option.map_eq_some_iff, Array.getElem?_toList] at hj
    obtain ⟨a, ha, rfl⟩ := hj
    rw [Array.getD_eq_getD_getElem?, ha]
    exact ofC_ok a⟩

def buildA (P : Program) (st : List Ob) (t : TypeId) (parts : List (Nat × V)) : Option (Prop × V) :=
  match placesA P t with
  | some (zs, place) => (fillA st place zs parts).map fun (p, cs) => (p = true, .agg cs)
  | none => none

theorem buildA_ok (hs : srel D μ st w) {t : TypeId} {parts : List (Nat × V)} {parts' : Array (Nat × Value)} {p : Prop} {v : V} (h : buildA P st t parts = some (p, v)) (hp : p) (hm : parts'.toList.map (·.1) = parts.map (·.1))
    (hr : ∀ (k : Nat) (x : Nat × V) (y : Nat × Value), parts[k]? = some x → parts'.toList[k]? = some y → vrel μ st (qd D μ st w) w x.2 y.2) : Does P D μ st w (Instr.build t parts') v st := by
  unfold buildA at h
  cases hpl : placesA P t with
  | none => simp [hpl] at h
  | some zp =>
    obtain ⟨zs, place⟩ := zp
    simp only [hpl, Option.map_eq_some_iff] at h
    obtain ⟨⟨p', cs⟩, h1, h2⟩ := h
    simp only [Prod.mk.injEq] at h2
    obtain ⟨rfl, rfl⟩ := h2
    have key : ∃ z : Array Value, zs = z.toList.map ofC ∧ P.built t parts'.toList = Instr.fill place z parts'.toList := by
      unfold placesA at hpl
      unfold Program.built
      cases hit : P.info? t with
      | none => simp [hit] at hpl
      | some it =>
        cases hu : P.underlying t with
        | none => simp [hit, hu] at hpl
        | some d =>
          cases hz : it.zero with
          | none => cases d <;> simp [hit, hu, hz] at hpl
          | some z =>
            cases d <;> try (simp [hit, hu] at hpl; done)
            case array n e =>
              cases hie : P.info? e with
              | none => simp [hit, hu, hz, hie] at hpl
              | some ie =>
                simp only [hit, hu, hz, hie, Option.some.injEq, Prod.mk.injEq] at hpl
                obtain ⟨rfl, rfl⟩ := hpl
                exact ⟨z.cells, rfl, by simp only [hz, hie]⟩
            case struct fields =>
              cases hpp : fields.toList.mapM (fun f => (P.info? f.type).map fun i => (f.offset, i.size)) with
              | none => simp [hit, hu, hz, hpp] at hpl
              | some places =>
                simp only [hit, hu, hz, hpp, Option.some.injEq, Prod.mk.injEq] at hpl
                obtain ⟨rfl, rfl⟩ := hpl
                exact ⟨z.cells, rfl, by simp only [hz, hpp]⟩
    obtain ⟨z, rfl, hb⟩ := key
    obtain ⟨out', e1, e2⟩ := fillA_ok (μ := μ) (w := w) (Q := qd D μ st w) parts parts'.toList _ z p' cs h1 hp (zero_ok z) hm hr
    exact Does.same hs (run_build w t parts' out' (hb.trans e1)) (.agg _ _ e2.1 e2.2)

/-- a new row of the store, in a block that was just made -/
theorem newRow_ok (vr : Nat) (hs : srel D μ st w) {sz : Nat} {es : List (List V)} {cur : Array Value} {T : TypeId} (h1 : es.length * sz ≤ cur.size) (h2 : ∀ (i : Nat) (cs : List V), es[i]? = some cs → cs.length = sz)
    (h3 : ∀ (i : Nat) (cs : List V) (j : Nat) (v : V), es[i]? = some cs → cs[j]? = some v → vrel μ st (qd D μ st w) w v (cur.getD (i * sz + j) Go.undef)) :
    srel D (upd μ st.length (some (w.heap.size, cur.size))) (st ++ [.row vr sz false es]) (w.alloc (.cells cur T)) ∧ Fr μ st w (upd μ st.length (some (w.heap.size, cur.size))) (st ++ [.row vr sz false es]) (w.alloc (.cells cur T)) ∧
      Ev st.length μ st (upd μ st.length (some (w.heap.size, cur.size))) (st ++ [.row vr sz false es]) ∧
      (∀ a y, vrel μ st (qd D μ st w) w a y → vrel (upd μ st.length (some (w.heap.size, cur.size))) (st ++ [.row vr sz false es]) (qd D (upd μ st.length (some (w.heap.size, cur.size))) (st ++ [.row vr sz false es]) (w.alloc (.cells cur T))) (w.alloc (.cells cur T)) a y) :=
  new_row vr hs (Grow.alloc w _) (.inr ⟨w.heap.size, cur.size, cur, T, 0, 0, rfl, Nat.le_refl _, heap_alloc_new w _, rfl, h1, h2, .inl rfl, h3⟩)

theorem new_get (st : List Ob) (o : Ob) : (st ++ [o])[st.length]? = some o := by simp

def zeroA (P : Program) (t : TypeId) : Option (List V) := match P.info? t with | some i => i.zero.map fun z => z.cells.toList.map ofC | none => none

def allocA (P : Program) (st : List Ob) (t : TypeId) : Option (V × List Ob) := (zeroA P t).map fun zs => (.ptr st.length 0 0 0, st ++ [.row 0 zs.length false [zs]])
theorem one_row {es : List (List V)} {cs cs' : List V} {i : Nat} (he : es = [cs]) (h : es[i]? = some cs') : i = 0 ∧ cs' = cs := by
  subst he
  cases i with
  | zero => simp at h; exact ⟨rfl, h.symm⟩
  | succ i => simp at h
theorem boxed_ok (hs : srel D μ st w) {zs : List V} {z : Value} {T : TypeId} {sem : Sem Value} (hr : sem.run P w = .ok (.pointer (some ⟨w.heap.size, 0, none⟩)) (w.alloc (.cells z.cells T))) (hz : vrels μ st (qd D μ st w) w zs z.cells) :
    Does P D μ st w sem (.ptr st.length 0 0 0) (st ++ [.row 0 zs.length false [zs]]) := by
  obtain ⟨r1, r2, r3, _⟩ := newRow_ok (T := T) 0 hs (sz := zs.length) (es := [zs]) (cur := z.cells) (by rw [hz.1]; simp) (fun i cs h => by rw [(one_row rfl h).2])
    (fun i cs j v h hj => by obtain ⟨rfl, rfl⟩ := one_row rfl h; simpa using hz.2 j v hj)
  refine ⟨_, _, _, hr, .ptr ⟨by simp, fun v' s' r' e' h' => ?_⟩, r1, r2, r3⟩
  rw [new_get] at h'; cases h'
  exact ⟨Nat.le_refl _, fun _ => ⟨by simp, w.heap.size, z.cells.size, upd_same _ _ _, by simp⟩⟩
theorem allocA_ok (hs : srel D μ st w) {t : TypeId} {v : V} {st' : List Ob} (h : allocA P st t = some (v, st')) : Does P D μ st w (Instr.alloc t true (.tuple #[])) v st' := by
  simp only [allocA, Option.map_eq_some_iff] at h
  obtain ⟨zs, hz, h2⟩ := h
  simp only [Prod.mk.injEq] at h2
  obtain ⟨rfl, rfl⟩ := h2
  unfold zeroA at hz
  cases hi : P.info? t with
  | none => simp [hi] at hz
  | some i =>
    simp only [hi, Option.map_eq_some_iff] at hz
    obtain ⟨z, hz1, rfl⟩ := hz
    exact boxed_ok (z := z) (T := t) hs (by simp [Instr.alloc, zeroValue, typeInfo, hi, hz1, newVar, newRow]) (zero_ok z.cells)

def boxA (st : List Ob) (x : V) : Option (V × List Ob) := if x.shaped st = true then some (.ptr st.length 0 0 0, st ++ [.row 0 x.cells.length false [x.cells]]) else none
theorem boxA_ok (hs : srel D μ st w) {t : TypeId} {x v : V} {x' : Value} {st' : List Ob} (h : boxA st x = some (v, st')) (hx : vrel μ st (qd D μ st w) w x x') : Does P D μ st w (Instr.box t x') v st' := by
  unfold boxA at h
  split at h
  · rename_i hsh
    simp only [Option.some.injEq, Prod.mk.injEq] at h
    obtain ⟨rfl, rfl⟩ := h
    exact boxed_ok (z := x') (T := t) hs (by simp [Instr.box, newVar, newRow]) (shaped_ok hx hsh)
  · cases h

/-- elements of data alone -/
def V.toI : V → Option I
  | .i x => some x
  | .nils => some (.sl [])
  | _ => none
def toIs : List V → Option (List I)
  | [] => some []
  | v :: vs => match v.toI, toIs vs with | some x, some xs => some (x :: xs) | _, _ => none
def toIss : List (List V) → Option (List (List I))
  | [] => some []
  | v :: vs => match toIs v, toIss vs with | some x, some xs => some (x :: xs) | _, _ => none
theorem toIs_get : ∀ {vs : List V} {xs : List I}, toIs vs = some xs → vs.length = xs.length ∧ ∀ (j : Nat) (x : I), xs[j]? = some x → ∃ v, vs[j]? = some v ∧ v.toI = some x
  | [], xs, h => by simp only [toIs, Option.some.injEq] at h; subst h; simp
  | v :: vs, xs, h => by
    simp only [toIs] at h
    split at h
    · rename_i x ys h1 h2
      cases h
      obtain ⟨l, r⟩ := toIs_get h2
      refine ⟨by simp [l], fun j y hj => ?_⟩
      cases j with
      | zero => simp at hj; subst hj; exact ⟨v, rfl, h1⟩
      | succ j => simp at hj; simpa using r j y hj
    · cases h
theorem toIss_get : ∀ {vs : List (List V)} {xs : List (List I)}, toIss vs = some xs → vs.length = xs.length ∧ ∀ (j : Nat) (x : List I), xs[j]? = some x → ∃ v, vs[j]? = some v ∧ toIs v = some x
  | [], xs, h => by simp only [toIss, Option.some.injEq] at h; subst h; simp
  | v :: vs, xs, h => by
    simp only [toIss] at h
    split at h
    · rename_i x ys h1 h2
      cases h
      obtain ⟨l, r⟩ := toIss_get h2
      refine ⟨by simp [l], fun j y hj => ?_⟩
      cases j with
      | zero => simp at hj; subst hj; exact ⟨v, rfl, h1⟩
      | succ j => simp at hj; simpa using r j y hj
    · cases h
theorem toI_ok {Q : Nat → Prop} {v : V} {x : I} {y : Value} (h : v.toI = some x) (hv : vrel μ st Q w v y) : irel Q w x y := by
  cases hv with
  | i hx => simp [V.toI] at h; subst h; exact hx
  | nils => simp [V.toI] at h; subst h; exact .sl0 none 0
  | _ => simp [V.toI] at h

/-- a literal slice's elements: so many zero ones, some put in place -/
def litEs (st : List Ob) (sz : Nat) : List (Nat × V) → List (List V) → Option (Bool × List (List V))
  | [], es => some (true, es)
  | (i, v) :: rest, es => if v.shaped st = true then (litEs st sz rest (es.set i v.cells)).map fun (p, out) => (Nat.beq v.cells.length sz && Nat.blt i es.length && p, out) else none

/-- elements that lie one behind the other in some cells -/
def flat (μ : Mu) (st : List Ob) (Q : Nat → Prop) (w : World) (sz : Nat) (es : List (List V)) (cur : Array Value) : Prop :=
  es.length * sz ≤ cur.size ∧ (∀ (i : Nat) (cs : List V), es[i]? = some cs → cs.length = sz) ∧
  ∀ (i : Nat) (cs : List V) (j : Nat) (v : V), es[i]? = some cs → cs[j]? = some v → vrel μ st Q w v (cur.getD (i * sz + j) Go.undef)

theorem litEs_ok {Q : Nat → Prop} {sz : Nat} : ∀ (parts : List (Nat × V)) (parts' : List (Nat × Value)) (es : List (List V)) (cur : Array Value) (p : Bool) (out : List (List V)), litEs st sz parts es = some (p, out) → p = true →
    flat μ st Q w sz es cur → cur.size = es.length * sz → parts'.map (·.1) = parts.map (·.1) → (∀ (k : Nat) (x : Nat × V) (y : Nat × Value), parts[k]? = some x → parts'[k]? = some y → vrel μ st Q w x.2 y.2) →
    ∃ cur', Instr.fill (fun i => some (i * sz, sz)) cur parts' = some cur' ∧ flat μ st Q w sz out cur' ∧ cur'.size = out.length * sz ∧ out.length = es.length
  | [], parts', es, cur, p, out, h, hp, hc, hsz, hm, hr => by
    simp only [litEs, Option.some.injEq, Prod.mk.injEq] at h
    obtain ⟨rfl, rfl⟩ := h
    obtain rfl : parts' = [] := by simpa using hm
    exact ⟨cur, rfl, hc, hsz, rfl⟩
  | (i, v) :: rest, parts', es, cur, p, out, h, hp, hc, hsz, hm, hr => by
    cases parts' with
    | nil => simp at hm
    | cons y rest' =>
      obtain ⟨i', v'⟩ := y
      simp only [List.map_cons, List.cons.injEq] at hm
      obtain ⟨rfl, hm⟩ := hm
      simp only [litEs] at h
      split at h
      · rename_i hsh
        simp only [Option.map_eq_some_iff] at h
        obtain ⟨⟨p', out0⟩, h1, h2⟩ := h
        simp only [Prod.mk.injEq] at h2
        obtain ⟨rfl, rfl⟩ := h2
        simp only [Bool.and_eq_true] at hp
        obtain ⟨⟨q1, q2⟩, q3⟩ := hp
        have q1 := Nat.eq_of_beq_eq_true q1
        have q2 : i' < es.length := Nat.le_of_ble_eq_true q2
        have hv := hr 0 _ _ rfl rfl
        obtain ⟨c1, c2⟩ := shaped_ok hv hsh
        simp only at c1 c2
        have hle : (i' + 1) * sz ≤ es.length * sz := Nat.mul_le_mul_right _ q2
        rw [Nat.add_mul] at hle
        obtain ⟨f1, f2⟩ := fold_put v'.cells.toList 0 (i' * sz) cur (by simp only [Array.length_toList]; rw [c1, q1]; omega)
        obtain ⟨cur', e1, e2, e3, e4⟩ := litEs_ok rest rest' (es.set i' v.cells) ((v'.cells.toList.zipIdx 0).foldl (fun cs (x : Value × Nat) => cs.setIfInBounds (i' * sz + x.2) x.1) cur) p' out0 h1 q3
          ⟨by rw [f1]; simpa using hc.1, fun k cs hk => by
            by_cases hik : i' = k
            · subst hik; rw [getElem?_set_eq' q2] at hk; cases hk; exact q1
            · rw [getElem?_set_ne' hik] at hk; exact hc.2.1 k cs hk, fun k cs j u hk hj => by
            rw [f2 (k * sz + j)]
            simp only [Nat.add_zero, Array.length_toList, c1, q1]
            by_cases hik : i' = k
            · subst hik; rw [getElem?_set_eq' q2] at hk; cases hk
              have hj' := lt_of_get? hj
              rw [if_pos (by omega)]
              have e0 : i' * sz + j - i' * sz = j := by omega
              rw [e0]
              have := c2 _ _ hj
              rw [Array.getD_eq_getD_getElem?, ← Array.getElem?_toList] at this
              exact this
            · rw [getElem?_set_ne' hik] at hk
              have hkl : j < sz := by have := lt_of_get? hj; rw [hc.2.1 k cs hk] at this; exact this
              have hne : ¬ (i' * sz ≤ k * sz + j ∧ k * sz + j < i' * sz + sz) := by
                rintro ⟨a1, a2⟩
                rcases Nat.lt_or_gt_of_ne hik with hlt' | hlt'
                · have : (i' + 1) * sz ≤ k * sz := Nat.mul_le_mul_right _ hlt'
                  rw [Nat.add_mul] at this; omega
                · have : (k + 1) * sz ≤ i' * sz := Nat.mul_le_mul_right _ hlt'
                  rw [Nat.add_mul] at this; omega
              rw [if_neg hne]
              exact hc.2.2 k cs j u hk hj⟩ (by rw [f1]; simpa using hsz) hm (fun k x y hx hy => hr (k + 1) x y hx hy)
        refine ⟨cur', ?_, e2, e3, by simpa using e4⟩
        unfold Instr.fill
        simp only
        rw [if_neg (by simp only [c1, q1, hsz, ne_eq, not_true, decide_false, Bool.false_or, decide_eq_true_eq]; omega)]
        rw [← e1]
        congr 1
        rw [← Array.foldl_toList, Array.toList_zipIdx]
      · cases h
end
end Go.Proofs.YtdbmfnhbgacldaaDoor.Am
