/- Operations of the model on abstract states: loads, stores, places of fields and elements, parts of values, new variables. -/
import Derived.Test.YtdbmfnhbgacldaaDoorAmB
namespace Go.Proofs.YtdbmfnhbgacldaaDoor.Am
set_option autoImplicit false
set_option linter.unusedVariables false
set_option linter.unusedSimpArgs false

def szA (P : Program) (t : TypeId) : Nat := match P.info? t with | some i => i.size | none => 0
def aggA (P : Program) (t : TypeId) : Option Bool := match P.info? t, P.underlying t with
  | some _, some (.struct _) | some _, some (.array _ _) => some true
  | some _, some _ => some false
  | _, _ => none
def fieldsA (P : Program) (t : TypeId) : Option (Array Field) := match P.underlying t with | some (.struct fs) => some fs | _ => none

theorem runSize {P : Program} {t : TypeId} {b : Bool} (h : aggA P t = some b) (w : World) : (sizeOf t).run P w = .ok (szA P t) w := by
  unfold aggA at h
  cases hi : P.info? t with
  | none => simp [hi] at h
  | some i => simp [sizeOf, typeInfo, hi, szA]
theorem runAgg {P : Program} {t : TypeId} {b : Bool} (h : aggA P t = some b) (w : World) : (isAgg t).run P w = .ok b w := by
  unfold aggA at h
  cases hi : P.info? t with
  | none => simp [hi] at h
  | some i =>
    cases hu : P.underlying t with
    | none => simp [hi, hu] at h
    | some d => cases d <;> simp_all [isAgg, underlying]

/-- what comes of an operation that yields a value -/
def Does (P : Program) (D : Nat → Prop) (μ : Mu) (st : List Ob) (w : World) (sem : Sem Value) (v : V) (st' : List Ob) : Prop :=
  ∃ y μ' w', sem.run P w = .ok y w' ∧ vrel μ' st' (qd D μ' st' w') w' v y ∧ srel D μ' st' w' ∧ Fr μ st w μ' st' w' ∧ Ev st.length μ st μ' st'

section
variable {P : Program} {D : Nat → Prop} {μ : Mu} {st : List Ob} {w : World}

theorem Does.same {sem : Sem Value} {v : V} {y : Value} (hs : srel D μ st w) (h : sem.run P w = .ok y w) (hv : vrel μ st (qd D μ st w) w v y) : Does P D μ st w sem v st :=
  ⟨y, μ, w, h, hv, hs, Fr.refl _ _ _, Ev.refl (Nat.le_refl _)⟩
theorem Does.grow {sem : Sem Value} {v : V} {y : Value} {w' : World} (hs : srel D μ st w) (h : sem.run P w = .ok y w') (hg : Grow w w') (hv : vrel μ st (qd D μ st w') w' v y) : Does P D μ st w sem v st :=
  ⟨y, μ, w', h, hv, hg.srel hs, hg.fr, Ev.refl (Nat.le_refl _)⟩

theorem getD_of_lt {cur : Array Value} {k : Nat} (h : k < cur.size) : cur[k]? = some (cur.getD k Go.undef) := by
  rw [Array.getElem?_eq_getElem h, Array.getD_eq_getD_getElem?, Array.getElem?_eq_getElem h]; rfl

/-- the cells of an element of a row: where they lie -/
theorem row_cells (hs : srel D μ st w) {id ver sz : Nat} {ro : Bool} {es : List (List V)} (hid : st[id]? = some (.row ver sz ro es)) {e : Nat} {cs : List V} (he : es[e]? = some cs) :
    ∃ g m cur T lo hi, μ id = some (g, m) ∧ w.heap[g]? = some (.cells cur T (lo, hi)) ∧ cur.size = m ∧ es.length * sz ≤ m ∧ cs.length = sz ∧ e * sz + sz ≤ m ∧ (∀ (i : Nat) (cs : List V), es[i]? = some cs → cs.length = sz) ∧
      (∀ (i : Nat) (cs : List V) (j : Nat) (v : V), es[i]? = some cs → cs[j]? = some v → vrel μ st (qd D μ st w) w v (cur.getD (i * sz + j) Go.undef)) ∧ unfz lo hi m := by
  rcases hs.row id ver sz ro es hid with ⟨rfl, _⟩ | ⟨g, m, cur, T, lo, hi, h1, h2, h3, h4, h5, h6, _, _, h8⟩
  · simp at he
  · have hlt := lt_of_get? he
    have : (e + 1) * sz ≤ es.length * sz := Nat.mul_le_mul_right _ hlt
    exact ⟨g, m, cur, T, lo, hi, h1, h2, h3, h4, h5 e cs he, by rw [Nat.add_mul] at this; omega, h5, h6, h8⟩

/-- a part of some cells, as a value of a type -/
def partA (P : Program) (t : TypeId) (cs : List V) (j : Nat) : Option (Prop × V) :=
  match aggA P t with
  | some true => some (Nat.ble (j + szA P t) cs.length = true, .agg ((cs.drop j).take (szA P t)))
  | some false => some (Nat.blt j cs.length = true, cs.getD j .undef)
  | none => none

theorem getD_get? {α : Type} {l : List α} {j : Nat} {d : α} (h : j < l.length) : l[j]? = some (l.getD j d) := by simp [List.getD, h]

/-- a variable is loaded -/
theorem load_cells {Q : Nat → Prop} {t : TypeId} {cs : List V} {j : Nat} {p : Prop} {v : V} (h : partA P t cs j = some (p, v)) (hp : p) {g o : Nat} (f : Nat → Value)
    (hc : ∀ k v, cs[k]? = some v → w.cell? ⟨g, o + k, none⟩ = some (f k)) (hr : ∀ k v, cs[k]? = some v → vrel μ st Q w v (f k)) :
    ∃ y, (loadVar t ⟨g, o + j, none⟩).run P w = .ok y w ∧ vrel μ st Q w v y := by
  unfold partA at h
  cases ha : aggA P t with
  | none => simp [ha] at h
  | some b =>
    cases b with
    | true =>
      simp only [ha, Option.some.injEq, Prod.mk.injEq] at h
      obtain ⟨rfl, rfl⟩ := h
      have hp := Nat.le_of_ble_eq_true hp
      have hl := run_loadCells (P := P) w ⟨g, o + j, none⟩ (szA P t) (fun k => f (j + k)) (fun k hk => by
        rw [Addr.add_lit, Nat.add_assoc]
        exact hc (j + k) _ (getD_get? (d := .undef) (by omega)))
      refine ⟨.agg ((List.range (szA P t)).map fun k => f (j + k)).toArray, by simp [loadVar, runAgg ha, runSize ha, hl], .agg _ _ (by simp; omega) (fun k v hk => ?_)⟩
      have hk' : k < szA P t := by have := lt_of_get? hk; simp at this; omega
      rw [List.getElem?_take, if_pos hk', List.getElem?_drop] at hk
      simpa [Array.getD_eq_getD_getElem?, hk'] using hr (j + k) v hk
    | false =>
      simp only [ha, Option.some.injEq, Prod.mk.injEq] at h
      obtain ⟨rfl, rfl⟩ := h
      have hp : j < cs.length := Nat.le_of_ble_eq_true hp
      have hj := getD_get? (d := V.undef) hp
      exact ⟨f j, by simp [loadVar, runAgg ha, run_load, hc j _ hj], hr j _ hj⟩

def loadA (P : Program) (st : List Ob) (t : TypeId) : V → Option (Prop × V)
  | .ptr id ver e j => match st[id]? with
    | some (.row ver' _ _ es) => if ver = ver' then partA P t (es.getD e []) j else none
    | _ => none
  | .iptr cs j => partA P t (cs.map .i) j
  | _ => none

theorem loadA_run (hs : srel D μ st w) {t : TypeId} {x v : V} {p : Prop} {x' : Value} (h : loadA P st t x = some (p, v)) (hp : p) (hx : vrel μ st (qd D μ st w) w x x') : ∃ y, (Instr.loadAt t x').run P w = .ok y w ∧ vrel μ st (qd D μ st w) w v y := by
  cases x with
  | ptr id ver e j =>
    cases hx with
    | ptr hx =>
    simp only [loadA] at h
    split at h
    · rename_i ver' sz ro es hid
      split at h
      · rename_i hv; subst hv
        obtain ⟨_, h2⟩ := hx
        obtain ⟨_, h3⟩ := h2 _ _ _ _ hid
        obtain ⟨hlt, g, m, hμ, rfl⟩ := h3 rfl
        have he : es[e]? = some (es.getD e []) := getD_get? hlt
        obtain ⟨g', m', cur, T, lo, hi, hμ', hg, hm, hem, hl, hle, _, hcell, _⟩ := row_cells hs hid he
        rw [hμ] at hμ'
        obtain ⟨rfl, rfl⟩ := Prod.mk.inj (Option.some.inj hμ')
        obtain ⟨y, hy, hv⟩ := load_cells (P := P) (μ := μ) (st := st) (Q := qd D μ st w) (w := w) h hp (g := g) (o := e * sz) (fun k => cur.getD (e * sz + k) Go.undef)
          (fun k u hk => by
            have := lt_of_get? hk
            rw [cell_of_row w g _ cur T (lo, hi) hg, getD_of_lt (by omega)])
          (fun k u hk => hcell e _ k u he hk)
        exact ⟨y, by simpa [Instr.loadAt, Instr.sureAddr] using hy, hv⟩
      · cases h
    · cases h
  | iptr cs j =>
    cases hx with
    | iptr _ _ g off xs hQ hw hr =>
    obtain ⟨y, hy, hv⟩ := load_cells (P := P) (μ := μ) (st := st) (Q := qd D μ st w) (w := w) (t := t) (v := v) (p := p) (by simpa [loadA] using h) hp (g := g) (o := off) xs
      (fun k u hk => by
        simp only [List.getElem?_map, Option.map_eq_some_iff] at hk
        obtain ⟨a, ha, rfl⟩ := hk
        exact hw k a ha)
      (fun k u hk => by
        simp only [List.getElem?_map, Option.map_eq_some_iff] at hk
        obtain ⟨a, ha, rfl⟩ := hk
        exact .i (hr k a ha))
    exact ⟨y, by simpa [Instr.loadAt, Instr.sureAddr] using hy, hv⟩
  | i x => simp [loadA] at h
  | ref => simp [loadA] at h
  | fn => simp [loadA] at h
  | nilf => simp [loadA] at h
  | agg => simp [loadA] at h
  | tup => simp [loadA] at h
  | nils => simp [loadA] at h
  | undef => simp [loadA] at h

theorem loadA_ok (hs : srel D μ st w) {t : TypeId} {x v : V} {p : Prop} {x' : Value} (h : loadA P st t x = some (p, v)) (hp : p) (hx : vrel μ st (qd D μ st w) w x x') : Does P D μ st w (Instr.loadAt t x') v st :=
  let ⟨_, h1, h2⟩ := loadA_run hs h hp hx
  Does.same hs h1 h2

/-- the cells of a value -/
def V.cells : V → List V
  | .agg cs => cs
  | v => [v]
/-- a value of one cell that is known, in this store -/
def V.known (st : List Ob) : V → Bool
  | .agg _ | .tup _ | .undef => false
  | .ref id ver _ _ | .ptr id ver _ _ => match st[id]? with | some (.row ver' _ _ _) => ver == ver' | _ => false
  | _ => true
def knownAll (st : List Ob) : List V → Bool
  | [] => true
  | v :: vs => v.known st && knownAll st vs
theorem knownAll_mem {st : List Ob} : ∀ {vs : List V}, knownAll st vs = true → ∀ v ∈ vs, v.known st = true
  | [], _, v, h => by cases h
  | u :: us, h, v, hv => by
    simp only [knownAll, Bool.and_eq_true] at h
    cases hv with
    | head => exact h.1
    | tail _ hm => exact knownAll_mem h.2 v hm
theorem known_ok {Q : Nat → Prop} {x : V} {y : Value} (h : vrel μ st Q w x y) (hk : x.known st = true) : y.oneCell' = true := by
  refine h.one (by cases x <;> simp_all [V.known, V.one]) (fun id ver off len hx => ?_) (fun id ver e j hx => ?_)
  · subst hx
    simp only [V.known] at hk
    split at hk
    · rename_i ver' sz ro es hid
      simp at hk; subst hk
      exact ⟨_, hid, sz, ro, es, rfl⟩
    · cases hk
  · subst hx
    simp only [V.known] at hk
    split at hk
    · rename_i ver' sz ro es hid
      simp at hk; subst hk
      exact ⟨_, hid, sz, ro, es, rfl⟩
    · cases hk
/-- a value's cells in the model -/
theorem cells_ok {Q : Nat → Prop} {x : V} {y : Value} (h : vrel μ st Q w x y) (hk : knownAll st x.cells = true) : y.cells.size = x.cells.length ∧ (∀ (k : Nat) (v : V), x.cells[k]? = some v → vrel μ st Q w v (y.cells.getD k Go.undef)) ∧ ∀ u ∈ y.cells.toList, u.oneCell' = true := by
  cases h with
  | agg cs cs' h1 h2 =>
    refine ⟨h1, h2, fun u hu => ?_⟩
    obtain ⟨k, hk1, rfl⟩ := List.getElem_of_mem hu
    have hk2 : k < cs.length := by simp only [Value.cells, Array.length_toList] at hk1; omega
    have hv := h2 k _ (List.getElem?_eq_getElem hk2)
    have := known_ok hv (knownAll_mem hk _ (List.getElem_mem hk2))
    simp only [Value.cells, Array.length_toList] at hk1
    simpa [Array.getD_eq_getD_getElem?, hk1, Value.cells] using this
  | tup => simp [V.cells, knownAll, V.known] at hk
  | undef => simp [V.cells, knownAll, V.known] at hk
  | i h => exact ⟨by cases h <;> rfl, fun k v hv => by cases k <;> simp [V.cells] at hv; subst hv; cases h <;> exact .i (by constructor <;> assumption), fun u hu => by cases h <;> simp [Value.cells] at hu <;> subst hu <;> rfl⟩
  | nils => exact ⟨rfl, fun k v hv => by cases k <;> simp [V.cells] at hv; subst hv; exact .nils, fun u hu => by simp [Value.cells] at hu; subst hu; rfl⟩
  | nilf => exact ⟨rfl, fun k v hv => by cases k <;> simp [V.cells] at hv; subst hv; exact .nilf, fun u hu => by simp [Value.cells] at hu; subst hu; rfl⟩
  | @ref id ver off len _ h =>
    have ho := known_ok (Q := Q) (w := w) (vrel.ref h) (by simpa [V.cells, knownAll] using hk)
    have hc : y.cells = #[y] := by cases y <;> simp_all [Value.cells, Value.oneCell']
    rw [hc]
    exact ⟨rfl, fun k v hv => by cases k <;> simp [V.cells] at hv; subst hv; exact .ref h, fun u hu => by simp at hu; subst hu; exact ho⟩
  | @ptr id ver e j _ h =>
    have ho := known_ok (Q := Q) (w := w) (vrel.ptr h) (by simpa [V.cells, knownAll] using hk)
    have hc : y.cells = #[y] := by cases y <;> simp_all [Value.cells, Value.oneCell']
    rw [hc]
    exact ⟨rfl, fun k v hv => by cases k <;> simp [V.cells] at hv; subst hv; exact .ptr h, fun u hu => by simp at hu; subst hu; exact ho⟩
  | iptr cs j g off xs hQ hw hr => exact ⟨rfl, fun k v hv => by cases k <;> simp [V.cells] at hv; subst hv; exact .iptr cs j g off xs hQ hw hr, fun u hu => by simp [Value.cells] at hu; subst hu; rfl⟩
  | fn f fs cs fs' cs' h1 h2 h3 h4 => exact ⟨rfl, fun k v hv => by cases k <;> simp [V.cells] at hv; subst hv; exact .fn f fs cs fs' cs' h1 h2 h3 h4, fun u hu => by simp [Value.cells] at hu; subst hu; rfl⟩

/-- some cells in the place of others -/
def putCells (cs : List V) (j : Nat) (new : List V) : List V := cs.take j ++ (new ++ cs.drop (j + new.length))
theorem putCells_length {cs : List V} {j : Nat} {new : List V} (h : j + new.length ≤ cs.length) : (putCells cs j new).length = cs.length := by simp [putCells]; omega
theorem putCells_get {cs : List V} {j : Nat} {new : List V} (h : j + new.length ≤ cs.length) (k : Nat) : (putCells cs j new)[k]? = if j ≤ k ∧ k < j + new.length then new[k - j]? else cs[k]? := by
  have hl : (cs.take j).length = j := by simp; omega
  unfold putCells
  by_cases h1 : k < j
  · rw [List.getElem?_append_left (by omega), if_neg (by omega), List.getElem?_take, if_pos h1]
  · rw [List.getElem?_append_right (by omega), hl]
    by_cases h2 : k < j + new.length
    · rw [List.getElem?_append_left (by omega), if_pos (by omega)]
    · rw [List.getElem?_append_right (by omega), if_neg (by omega), List.getElem?_drop]
      congr 1
      omega

def storeA (P : Program) (st : List Ob) (t : TypeId) (p v : V) : Option (Prop × List Ob) :=
  match p with
  | .ptr id ver e j => match st[id]? with
    | some (.row ver' sz false es) => if ver = ver' then
        some (((aggA P t).isSome && Nat.beq (szA P t) v.cells.length && knownAll st v.cells && Nat.ble (j + v.cells.length) (es.getD e []).length) = true, st.set id (.row ver sz false (es.set e (putCells (es.getD e []) j v.cells))))
      else none
    | _ => none
  | _ => none

/-- what comes of an operation that yields nothing -/
def DoesU (P : Program) (D : Nat → Prop) (μ : Mu) (st : List Ob) (w : World) (sem : Sem Unit) (st' : List Ob) : Prop :=
  ∃ μ' w', sem.run P w = .ok () w' ∧ srel D μ' st' w' ∧ Fr μ st w μ' st' w' ∧ Ev st.length μ st μ' st'

theorem storeA_ok (hs : srel D μ st w) {t : TypeId} {x v : V} {p : Prop} {st' : List Ob} {x' v' : Value} (h : storeA P st t x v = some (p, st')) (hp : p) (hx : vrel μ st (qd D μ st w) w x x') (hv : vrel μ st (qd D μ st w) w v v') :
    DoesU P D μ st w (Instr.storeAt t x' v') st' := by
  cases hx with
  | @ptr id ver e j _ hx =>
    simp only [storeA] at h
    split at h
    · rename_i ver' sz es hid
      split at h
      · rename_i hvv; subst hvv
        simp only [Option.some.injEq, Prod.mk.injEq] at h
        obtain ⟨rfl, rfl⟩ := h
        simp only [Bool.and_eq_true] at hp
        obtain ⟨⟨⟨hag, hsz⟩, hkn⟩, hj⟩ := hp
        have hsz := Nat.eq_of_beq_eq_true hsz
        have hj := Nat.le_of_ble_eq_true hj
        obtain ⟨b, hb⟩ := Option.isSome_iff_exists.1 hag
        obtain ⟨_, h2⟩ := hx
        obtain ⟨_, h3⟩ := h2 _ _ _ _ hid
        obtain ⟨hlt, g, m, hμ, rfl⟩ := h3 rfl
        have he : es[e]? = some (es.getD e []) := getD_get? hlt
        obtain ⟨g', m', cur, T, lo, hi, hμ', hg, hm, hem, hl, hle, hlen, hcell, hfz⟩ := row_cells hs hid he
        rw [hμ] at hμ'
        obtain ⟨rfl, rfl⟩ := Prod.mk.inj (Option.some.inj hμ')
        obtain ⟨c1, c2, c3⟩ := cells_ok hv hkn
        obtain ⟨w', cur', hr, hg', hs', hc', ho⟩ := run_stores P g T lo hi v'.cells.toList (e * sz + j) 0 cur w hg (by simp only [Array.length_toList]; omega) (by rw [hm]; exact unfz_ok hfz) c3
        have hnew := putCells_length (cs := es.getD e []) (j := j) (new := v.cells) hj
        obtain ⟨r1, r2, r3, _⟩ := write_row hs hid hμ ho (ver' := ver) (es' := es.set e (putCells (es.getD e []) j v.cells)) (Nat.le_refl _) (fun _ => by simp) hg' (by rw [hs', hm]) (by simpa using hem)
          (fun i cs hi' => by
            by_cases hie : e = i
            · subst hie; rw [getElem?_set_eq' hlt] at hi'; cases hi'; rw [hnew, hl]
            · rw [getElem?_set_ne' hie] at hi'; exact hlen i cs hi')
          hfz
          (fun i cs k u hi' hk hkeep => by
            rw [hc' (i * sz + k)]
            simp only [Nat.add_zero, Array.length_toList]
            by_cases hie : e = i
            · subst hie
              rw [getElem?_set_eq' hlt] at hi'; cases hi'
              rw [putCells_get hj] at hk
              by_cases hkk : j ≤ k ∧ k < j + v.cells.length
              · rw [if_pos hkk] at hk
                rw [if_pos (by omega)]
                have e2 : e * sz + k - (e * sz + j) = k - j := by omega
                rw [e2]
                have := hkeep _ _ (c2 _ _ hk)
                rw [Array.getD_eq_getD_getElem?, ← Array.getElem?_toList] at this
                exact this
              · rw [if_neg hkk] at hk
                rw [if_neg (by omega)]
                exact hkeep _ _ (hcell e _ k u he hk)
            · rw [getElem?_set_ne' hie] at hi'
              have hkl : k < sz := by have := lt_of_get? hk; rw [hlen i cs hi'] at this; exact this
              have hne : ¬ (e * sz + j ≤ i * sz + k ∧ i * sz + k < e * sz + j + v'.cells.size) := by
                rintro ⟨a1, a2⟩
                rcases Nat.lt_or_gt_of_ne hie with hlt' | hlt'
                · have : (e + 1) * sz ≤ i * sz := Nat.mul_le_mul_right _ hlt'
                  rw [Nat.add_mul] at this; omega
                · have : (i + 1) * sz ≤ e * sz := Nat.mul_le_mul_right _ hlt'
                  rw [Nat.add_mul] at this; omega
              rw [if_neg hne]
              exact hkeep _ _ (hcell i cs k u hi' hk))
        refine ⟨μ, w', ?_, r1, r2, r3⟩
        have hzz : v'.cells.size = szA P t := by rw [hsz, c1]
        simp only [Instr.storeAt, Instr.sureAddr, storeVar, Sem.run_bind, Sem.run_pure, Result.andThen_ok, runSize hb, hzz, ne_eq, not_true, if_false]
        exact hr
      · cases h
    · cases h
  | i => simp [storeA] at h
  | undef => simp [storeA] at h
  | nils => simp [storeA] at h
  | nilf => simp [storeA] at h
  | ref => simp [storeA] at h
  | iptr => simp [storeA] at h
  | fn => simp [storeA] at h
  | agg => simp [storeA] at h
  | tup => simp [storeA] at h
end
end Go.Proofs.YtdbmfnhbgacldaaDoor.Am
