/- Operations of the model on abstract states: literal slices, made slices, appends, lengths. -/
import Derived.Test.YtdbmfnhbgacldaaDoorAmE
namespace Go.Proofs.YtdbmfnhbgacldaaDoor.Am
set_option autoImplicit false
set_option linter.unusedVariables false
set_option linter.unusedSimpArgs false
section
variable {P : Program} {D : Nat → Prop} {μ : Mu} {st : List Ob} {w : World}

theorem rep_get {n : Nat} {z : Array Value} (sz : Nat) (hz : z.size = sz) (i j : Nat) (hi : i < n) (hj : j < sz) : ((Array.range (n * sz)).map fun k => z[k % z.size]!).getD (i * sz + j) Go.undef = z.getD j Go.undef := by
  have hlt : i * sz + j < n * sz := by
    have : (i + 1) * sz ≤ n * sz := Nat.mul_le_mul_right _ hi
    rw [Nat.add_mul] at this; omega
  subst hz
  rw [Array.getD_eq_getD_getElem?, Array.getElem?_map, Array.getElem?_range, if_pos hlt]
  simp only [Option.map_some, Option.getD_some]
  have e : (i * z.size + j) % z.size = j := by rw [Nat.mul_comm, Nat.mul_add_mod, Nat.mod_eq_of_lt hj]
  rw [e, Array.getD_eq_getD_getElem?, Array.getElem?_eq_getElem hj, getElem!_pos z j hj]
  rfl

/-- so many zero elements -/
theorem zeros_flat {Q : Nat → Prop} (n : Nat) (z : Array Value) : flat μ st Q w z.size (List.replicate n (z.toList.map ofC)) ((Array.range (n * z.size)).map fun k => z[k % z.size]!) := by
  refine ⟨by simp, fun i cs h => ?_, fun i cs j v h hj => ?_⟩
  · rw [List.getElem?_replicate] at h
    split at h
    · cases h; simp
    · cases h
  · rw [List.getElem?_replicate] at h
    split at h
    · rename_i hi
      cases h
      have hj' : j < z.size := by have := lt_of_get? hj; simpa using this
      rw [rep_get z.size rfl i j hi hj']
      exact (zero_ok z).2 j v hj
    · cases h

def litA (P : Program) (own : Bool) (st : List Ob) (t : TypeId) (len : Nat) (parts : List (Nat × V)) : Option (Prop × V × List Ob) :=
  match elemA P t with
  | some el => match zeroA P el with
    | some zs => if (aggA P el).isSome = true ∧ zs.length = szA P el ∧ len * szA P el ≤ 2 ^ 24 ∧ len ≤ maxLen then
        match litEs st (szA P el) parts (List.replicate len zs) with
        | some (p, es) => if own = true ∨ len = 0 then some (p = true, .ref st.length 1 0 len, st ++ [.row 1 (szA P el) false es]) else
            match toIss es with
            | some xs => some (p = true, .i (.sl xs), st)
            | none => some (p = true, .ref st.length 1 0 len, st ++ [.row 1 (szA P el) false es])
        | none => none
      else none
    | none => none
  | none => none

theorem litA_ok (hs : srel D μ st w) {own : Bool} {t : TypeId} {len : Nat} {parts : List (Nat × V)} {parts' : Array (Nat × Value)} {p : Prop} {v : V} {st' : List Ob} (h : litA P own st t len parts = some (p, v, st')) (hp : p)
    (hm : parts'.toList.map (·.1) = parts.map (·.1)) (hr : ∀ (k : Nat) (x : Nat × V) (y : Nat × Value), parts[k]? = some x → parts'.toList[k]? = some y → vrel μ st (qd D μ st w) w x.2 y.2) :
    Does P D μ st w (Instr.buildSlice t len parts') v st' := by
  unfold litA at h
  cases he : elemA P t with
  | none => simp [he] at h
  | some el =>
    simp only [he] at h
    have hu := elemA_ok he
    unfold zeroA at h
    cases hi : P.info? el with
    | none => simp [hi] at h
    | some it =>
      cases hz : it.zero with
      | none => simp [hi, hz] at h
      | some z =>
        simp only [hi, hz, Option.map_some] at h
        split at h
        · rename_i hc
          obtain ⟨ha, hzl, hlen, hml⟩ := hc
          obtain ⟨b, hb⟩ := Option.isSome_iff_exists.1 ha
          simp only [List.length_map, Array.length_toList] at hzl
          cases hle : litEs st (szA P el) parts (List.replicate len (z.cells.toList.map ofC)) with
          | none => simp [hle] at h
          | some pe =>
            obtain ⟨p', es⟩ := pe
            simp only [hle] at h
            have hp' : p' = true := by
              split at h
              · cases h; exact hp
              · split at h <;> · cases h; exact hp
            obtain ⟨cur', e1, e2, e3, e4⟩ := litEs_ok (μ := μ) (w := w) (Q := qd D μ st w) parts parts'.toList _ ((Array.range (len * szA P el)).map fun k => z.cells[k % z.cells.size]!) p' es hle hp' (by rw [← hzl]; exact zeros_flat len z.cells) (by simp) hm hr
            rw [List.length_replicate] at e4
            have hrun : (Instr.buildSlice t len parts').run P w = .ok (.slice (some ⟨w.heap.size, 0, none⟩) len len) (w.alloc (.cells cur' el)) := by
              simp only [Instr.buildSlice, Sem.run_bind, run_underlying hu, Result.andThen_ok, runSize hb]
              rw [if_neg (by omega)]
              by_cases h0 : len * szA P el = 0
              · have e5 : ((Array.range (len * szA P el)).map fun k => z.cells[k % z.cells.size]!) = ((Array.range (len * szA P el)).map fun k => (#[] : Array Value)[k % (#[] : Array Value).size]!) := by rw [h0, show Array.range 0 = #[] from rfl]; simp
                rw [e5] at e1
                simp [h0] at e1 ⊢
                simp [e1, newRow]
              · simp [h0, zeroValue, typeInfo, hi, hz, e1, newRow]
            have ref_ok : Does P D μ st w (Instr.buildSlice t len parts') (.ref st.length 1 0 len) (st ++ [.row 1 (szA P el) false es]) := by
              obtain ⟨r1, r2, r3, _⟩ := newRow_ok (T := el) 1 hs (sz := szA P el) (es := es) (cur := cur') e2.1 e2.2.1 e2.2.2
              refine ⟨_, _, _, hrun, .ref ⟨by simp, fun v' s' r' e' h' => ?_⟩, r1, r2, r3⟩
              rw [new_get] at h'; cases h'
              refine ⟨Nat.le_refl _, fun _ => ⟨by omega, .inr (.inl ⟨w.heap.size, cur'.size, len, upd_same _ _ _, by simp, Nat.le_refl _, hml, by rw [e3, e4]; simp⟩)⟩⟩
            split at h
            · cases h; exact ref_ok
            · split at h
              · rename_i xs hxs
                cases h
                have hgr := Grow.alloc w (.cells cur' el)
                have hQ : qd D μ st (w.alloc (.cells cur' el)) w.heap.size := ⟨⟨by simp, fun hl => by have := live_lt hs hl; omega⟩, hs.dom _ (Nat.le_refl _)⟩
                obtain ⟨hl, hx⟩ := toIss_get hxs
                refine Does.grow hs hrun hgr ?_
                have := irel.sl (Q := qd D μ st (w.alloc (.cells cur' el))) (w := w.alloc (.cells cur' el)) xs (szA P el) w.heap.size 0 len (fun i j => cur'.getD (i * szA P el + j) Go.undef) hQ (by omega)
                  (fun i cs hcs => by
                    obtain ⟨vs, hv1, hv2⟩ := hx i cs hcs
                    rw [← (toIs_get hv2).1]; exact e2.2.1 i vs hv1)
                  (fun i cs j u hcs hj => by
                    obtain ⟨vs, hv1, hv2⟩ := hx i cs hcs
                    have hj' : j < szA P el := by have := lt_of_get? hj; rw [← (toIs_get hv2).1, e2.2.1 i vs hv1] at this; exact this
                    have hi' := lt_of_get? hv1
                    have : (i + 1) * szA P el ≤ es.length * szA P el := Nat.mul_le_mul_right _ hi'
                    rw [Nat.add_mul] at this
                    rw [cell_of_row _ w.heap.size _ cur' el (0, 0) (heap_alloc_new w _), Nat.zero_add, getD_of_lt (by have := e2.1; omega)])
                  (fun i cs j u hcs hj => by
                    obtain ⟨vs, hv1, hv2⟩ := hx i cs hcs
                    obtain ⟨v1, hv3, hv4⟩ := (toIs_get hv2).2 j u hj
                    exact toI_ok hv4 (hgr.vrel hs (e2.2.2 i vs j v1 hv1 hv3)))
                rw [show xs.length = len by omega] at this
                exact .i this
              · cases h; exact ref_ok
        · cases h

/-- a slice is made -/
def makeA (P : Program) (st : List Ob) (t : TypeId) : V → V → Option (Prop × V × List Ob)
  | .i (.int _ n), .i (.int _ c) => match elemA P t, (elemA P t).bind P.info? with
    | some el, some it => match it.zero with
      | some z => if (aggA P el).isSome = true ∧ z.cells.size = it.size then some ((0 ≤ n ∧ c = n ∧ it.bytes * n ≤ 140737488355328 ∧ n ≤ maxLen), .ref st.length 1 0 n.toNat, st ++ [.row 1 it.size false (List.replicate n.toNat (z.cells.toList.map ofC))]) else none
      | none => none
    | _, _ => none
  | _, _ => none
theorem makeA_ok (hs : srel D μ st w) {t : TypeId} {x y v : V} {x' y' : Value} {p : Prop} {st' : List Ob} (h : makeA P st t x y = some (p, v, st')) (hp : p) (hx : vrel μ st (qd D μ st w) w x x') (hy : vrel μ st (qd D μ st w) w y y') :
    Does P D μ st w (Instr.makeSlice t x' y') v st' := by
  cases hx with
  | @i x _ hx =>
    cases hx with
    | int k n =>
      cases hy with
      | @i y _ hy =>
        cases hy with
        | int k' c =>
          unfold makeA at h
          cases he : elemA P t with
          | none => simp [he] at h
          | some el =>
            have hu := elemA_ok he
            cases hi : P.info? el with
            | none => simp [he, hi] at h
            | some it =>
              cases hz : it.zero with
              | none => simp [he, hi, hz] at h
              | some z =>
                simp only [he, hi, hz, Option.bind_some] at h
                split at h
                · rename_i hc
                  obtain ⟨ha, hzs⟩ := hc
                  obtain ⟨b, hb⟩ := Option.isSome_iff_exists.1 ha
                  simp only [Option.some.injEq, Prod.mk.injEq] at h
                  obtain ⟨rfl, rfl, rfl⟩ := h
                  obtain ⟨p1, rfl, p2, p3⟩ := hp
                  have hszA : szA P el = it.size := by simp [szA, hi]
                  have hw : IntKind.i64.wrap c = c := by unfold maxLen at p3; unfold IntKind.wrap; simp [IntKind.signed, IntKind.bits]; omega
                  have hrun : (Instr.makeSlice t (.int k c) (.int k' c)).run P w = .ok (.slice (some ⟨w.heap.size, 0, none⟩) c.toNat c.toNat) (w.alloc (.cells ((Array.range (c.toNat * it.size)).map fun j => z.cells[j % z.cells.size]!) el)) := by
                    have h1 : ¬ (c < 0) := by omega
                    have h2 : ¬ ((it.bytes : Int) * c > 2 ^ 48) := by omega
                    simp only [Instr.makeSlice, Sem.run_bind, run_underlying hu, Result.andThen_ok, asInt, asIntOf, Sem.run_pure, typeInfo, run_program, hi, hw]
                    have h3 : (decide (c < 0) || decide ((it.bytes : Int) * c > 2 ^ 48)) = false := by simp [h1]; omega
                    simp only [h3, Bool.false_or, decide_eq_true_eq, h1, decide_false, Bool.false_eq_true, if_false, show ¬ (c > c) by omega, Bool.or_self]
                    have h4 : ¬ (281474976710656 < (it.bytes : Int) * c) := by omega
                    by_cases h0 : c.toNat * it.size = 0
                    · simp [runSize hb, hszA, h0, newRow, h4, show Array.range 0 = #[] from rfl]
                    · simp [runSize hb, hszA, h0, zeroValue, typeInfo, hi, hz, newRow, h4]
                  have hf := zeros_flat (μ := μ) (st := st) (w := w) (Q := qd D μ st w) c.toNat z.cells
                  rw [hzs] at hf
                  obtain ⟨r1, r2, r3, _⟩ := newRow_ok (T := el) 1 hs hf.1 hf.2.1 hf.2.2
                  refine ⟨_, _, _, hrun, .ref ⟨by simp, fun v' s' r' e' h' => ?_⟩, by rw [hzs] at *; exact r1, by rw [hzs] at *; exact r2, by rw [hzs] at *; exact r3⟩
                  rw [new_get] at h'; cases h'
                  exact ⟨Nat.le_refl _, fun _ => ⟨by simp, .inr (.inl ⟨w.heap.size, _, c.toNat, upd_same _ _ _, by simp, Nat.le_refl _, by unfold maxLen at *; omega, by simp⟩)⟩⟩
                · cases h
        | _ => simp [makeA] at h
      | _ => simp [makeA] at h
    | _ => simp [makeA] at h
  | _ => simp [makeA] at h
end
end Go.Proofs.YtdbmfnhbgacldaaDoor.Am
