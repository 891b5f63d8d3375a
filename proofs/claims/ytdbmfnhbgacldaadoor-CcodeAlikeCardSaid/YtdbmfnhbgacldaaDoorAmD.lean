/- Operations of the model on abstract states: places of fields and elements, windows, parts of values. -/
import Derived.Test.YtdbmfnhbgacldaaDoorAmC
namespace Go.Proofs.YtdbmfnhbgacldaaDoor.Am
set_option autoImplicit false
set_option linter.unusedVariables false
set_option linter.unusedSimpArgs false
section
variable {P : Program} {D : Nat → Prop} {μ : Mu} {st : List Ob} {w : World}

theorem known_ptr {st : List Ob} {id ver e j : Nat} (h : (V.ptr id ver e j).known st = true) : ∃ sz ro es, st[id]? = some (.row ver sz ro es) := by
  simp only [V.known] at h
  split at h
  · rename_i v sz ro es hid
    simp at h; subst h
    exact ⟨sz, ro, es, hid⟩
  · cases h
theorem known_ref {st : List Ob} {id ver off len : Nat} (h : (V.ref id ver off len).known st = true) : ∃ sz ro es, st[id]? = some (.row ver sz ro es) := by
  simp only [V.known] at h
  split at h
  · rename_i v sz ro es hid
    simp at h; subst h
    exact ⟨sz, ro, es, hid⟩
  · cases h

def fieldAddrA (P : Program) (st : List Ob) (t : TypeId) (x : V) (f : Nat) : Option V :=
  match (fieldsA P t).bind (·[f]?) with
  | some ⟨_, ty, off, _, _, _, _⟩ => if (aggA P ty).isSome = true ∧ szA P ty ≠ 0 ∧ x.known st = true then
      match x with
      | .ptr id ver e j => some (.ptr id ver e (j + off))
      | .iptr cs j => some (.iptr cs (j + off))
      | _ => none
    else none
  | none => none

theorem fieldAddrA_ok (hs : srel D μ st w) {t : TypeId} {x v : V} {f : Nat} {x' : Value} (h : fieldAddrA P st t x f = some v) (hx : vrel μ st (qd D μ st w) w x x') : Does P D μ st w (Instr.fieldAt t x' f) v st := by
  unfold fieldAddrA at h
  cases hf : (fieldsA P t).bind (·[f]?) with
  | none => simp [hf] at h
  | some fd =>
    simp only [hf] at h
    split at h
    · rename_i hc
      obtain ⟨ha, hz, hk⟩ := hc
      obtain ⟨b, hb⟩ := Option.isSome_iff_exists.1 ha
      obtain ⟨fs, hfs, hfd⟩ := Option.bind_eq_some_iff.1 hf
      have hu : P.underlying t = some (.struct fs) := by
        unfold fieldsA at hfs
        split at hfs
        · rename_i fs' hu; cases hfs; exact hu
        · cases hfs
      have key : ∀ g o, x' = .pointer (some ⟨g, o, none⟩) → (Instr.fieldAt t x' f).run P w = .ok (.pointer (some ⟨g, o + fd.offset, none⟩)) w := by
        rintro g o rfl
        simp [Instr.fieldAt, Instr.sureAddr, run_underlying hu, hfd, fieldPlace, runSize hb, hz, Addr.add_lit]
      cases hx with
      | @ptr id ver e j _ hx =>
        simp only [Option.some.injEq] at h; subst h
        obtain ⟨sz, ro, es, hid⟩ := known_ptr hk
        obtain ⟨hlt, g, m, hμ, rfl⟩ := (hx.2 _ _ _ _ hid).2 rfl
        refine Does.same hs (key g _ rfl) (.ptr ⟨hx.1, fun v' s' r' e' h' => ?_⟩)
        rw [hid] at h'; cases h'
        exact ⟨Nat.le_refl _, fun _ => ⟨hlt, g, m, hμ, by rw [Nat.add_assoc]⟩⟩
      | iptr cs j g off xs hQ hw hr =>
        simp only [Option.some.injEq] at h; subst h
        exact Does.same hs (key g _ rfl) (by rw [Nat.add_assoc]; exact .iptr cs (j + fd.offset) g off xs hQ hw hr)
      | i => simp at h
      | undef => simp at h
      | nils => simp at h
      | nilf => simp at h
      | ref => simp at h
      | fn => simp at h
      | agg => simp at h
      | tup => simp at h
    · cases h

/-- the element's type of a slice type; of an array type, and how many -/
def elemA (P : Program) (t : TypeId) : Option TypeId := match P.underlying t with | some (.slice e) => some e | _ => none
def arrA (P : Program) (t : TypeId) : Option (Nat × TypeId) := match P.underlying t with | some (.array n e) => some (n, e) | _ => none
theorem elemA_ok {t e : TypeId} (h : elemA P t = some e) : P.underlying t = some (.slice e) := by
  unfold elemA at h; split at h
  · rename_i h'; cases h; exact h'
  · cases h
theorem arrA_ok {t e : TypeId} {n : Nat} (h : arrA P t = some (n, e)) : P.underlying t = some (.array n e) := by
  unfold arrA at h; split at h
  · rename_i h'; cases h; exact h'
  · cases h

def indexAddrA (P : Program) (st : List Ob) (t : TypeId) (x : V) : V → Option (Prop × V)
  | .i (.int _ i) => match elemA P t with
    | some el => if (aggA P el).isSome = true then
        match x with
        | .i (.sl es) => some (0 ≤ i ∧ i < es.length ∧ (es.getD i.toNat []).length = szA P el, .iptr (es.getD i.toNat []) 0)
        | .ref id ver off len => match st[id]? with
          | some (.row ver' sz _ _) => if ver = ver' ∧ sz = szA P el then some (0 ≤ i ∧ i < len, .ptr id ver (off + i.toNat) 0) else none
          | _ => none
        | _ => none
      else none
    | none => match arrA P t with
      | some (n, el) => if (aggA P el).isSome = true ∧ x.known st = true then
          match x with
          | .ptr id ver e j => some (0 ≤ i ∧ i < n, .ptr id ver e (j + i.toNat * szA P el))
          | .iptr cs j => some (0 ≤ i ∧ i < n, .iptr cs (j + i.toNat * szA P el))
          | _ => none
        else none
      | none => none
  | _ => none

theorem indexAddrA_ok (hs : srel D μ st w) {t : TypeId} {x ix v : V} {p : Prop} {x' ix' : Value} (h : indexAddrA P st t x ix = some (p, v)) (hp : p) (hx : vrel μ st (qd D μ st w) w x x') (hi : vrel μ st (qd D μ st w) w ix ix') :
    Does P D μ st w (Instr.indexAt t x' ix') v st := by
  cases hi with
  | @i ix _ hi =>
    cases hi with
    | int k i =>
      unfold indexAddrA at h
      simp only at h
      cases he : elemA P t with
      | some el =>
        simp only [he] at h
        have hu := elemA_ok he
        split at h
        · rename_i ha
          obtain ⟨b, hb⟩ := Option.isSome_iff_exists.1 ha
          have key : ∀ g o n c, x' = .slice (some ⟨g, o, none⟩) n c → 0 ≤ i → i < n → (Instr.indexAt t x' (.int k i)).run P w = .ok (.pointer (some ⟨g, o + i.toNat * szA P el, none⟩)) w := by
            rintro g o n c rfl h1 h2
            simp [Instr.indexAt, asIntOf, run_underlying hu, h1, h2, runSize hb, Addr.add_lit]
          cases hx with
          | @i x _ hx =>
            cases hx with
            | sl es sz g off c xs hQ hc hz hw hr =>
              simp only [Option.some.injEq, Prod.mk.injEq] at h
              obtain ⟨rfl, rfl⟩ := h
              obtain ⟨p1, p2, p3⟩ := hp
              have hlt : i.toNat < es.length := by omega
              have hcs := getD_get? (d := ([] : List I)) hlt
              have hsz := hz _ _ hcs
              have e1 := key g off es.length c rfl p1 p2
              refine Does.same hs e1 ?_
              have := vrel.iptr (μ := μ) (st := st) (Q := qd D μ st w) (w := w) (es.getD i.toNat []) 0 g (off + i.toNat * sz) (fun j => xs i.toNat j) hQ
                (fun j v hj => by rw [Nat.add_assoc]; exact hw _ _ j v hcs hj) (fun j v hj => hr _ _ j v hcs hj)
              rw [← p3, hsz]
              simpa using this
            | sl0 a c =>
              simp only [Option.some.injEq, Prod.mk.injEq] at h
              obtain ⟨rfl, rfl⟩ := h
              obtain ⟨p1, p2, p3⟩ := hp
              simp at p2; omega
            | int => simp at h
            | bool => simp at h
            | str => simp at h
            | nilp => simp at h
            | mp => simp at h
            | bp => simp at h
          | @ref id ver off len _ hx =>
            simp only at h
            split at h
            · rename_i ver' sz ro es hid
              split at h
              · rename_i hc
                obtain ⟨rfl, rfl⟩ := hc
                simp only [Option.some.injEq, Prod.mk.injEq] at h
                obtain ⟨rfl, rfl⟩ := h
                obtain ⟨p1, p2⟩ := hp
                obtain ⟨_, h3⟩ := hx.2 _ _ _ _ hid
                obtain ⟨h4, h5⟩ := h3 rfl
                rcases h5 with ⟨q1, _⟩ | ⟨g, m, c, hμ, rfl, _, _, _⟩ | ⟨q1, _⟩
                · omega
                · refine Does.same hs (key g _ len c rfl p1 p2) (.ptr ⟨hx.1, fun v' s' r' e' h' => ?_⟩)
                  rw [hid] at h'; cases h'
                  exact ⟨Nat.le_refl _, fun _ => ⟨by omega, g, m, hμ, by rw [Nat.add_mul, Nat.add_zero]⟩⟩
                · omega
              · cases h
            · cases h
          | undef => simp at h
          | nils => simp at h
          | nilf => simp at h
          | ptr => simp at h
          | iptr => simp at h
          | fn => simp at h
          | agg => simp at h
          | tup => simp at h
        · cases h
      | none =>
        simp only [he] at h
        cases har : arrA P t with
        | none => simp [har] at h
        | some ne =>
          obtain ⟨n, el⟩ := ne
          have hu := arrA_ok har
          simp only [har] at h
          split at h
          · rename_i hc
            obtain ⟨ha, hk⟩ := hc
            obtain ⟨b, hb⟩ := Option.isSome_iff_exists.1 ha
            have key : ∀ g o, x' = .pointer (some ⟨g, o, none⟩) → 0 ≤ i → i < n → (Instr.indexAt t x' (.int k i)).run P w = .ok (.pointer (some ⟨g, o + i.toNat * szA P el, none⟩)) w := by
              rintro g o rfl h1 h2
              simp [Instr.indexAt, asIntOf, run_underlying hu, Instr.sureAddr, h1, h2, runSize hb, Addr.add_lit]
            cases hx with
            | @ptr id ver e j _ hx =>
              simp only [Option.some.injEq, Prod.mk.injEq] at h
              obtain ⟨rfl, rfl⟩ := h
              obtain ⟨sz, ro, es, hid⟩ := known_ptr hk
              obtain ⟨hlt, g, m, hμ, rfl⟩ := (hx.2 _ _ _ _ hid).2 rfl
              refine Does.same hs (key g _ rfl hp.1 hp.2) (.ptr ⟨hx.1, fun v' s' r' e' h' => ?_⟩)
              rw [hid] at h'; cases h'
              exact ⟨Nat.le_refl _, fun _ => ⟨hlt, g, m, hμ, by rw [Nat.add_assoc]⟩⟩
            | iptr cs j g off xs hQ hw hr =>
              simp only [Option.some.injEq, Prod.mk.injEq] at h
              obtain ⟨rfl, rfl⟩ := h
              exact Does.same hs (key g _ rfl hp.1 hp.2) (by rw [Nat.add_assoc]; exact .iptr cs _ g off xs hQ hw hr)
            | i => simp at h
            | undef => simp at h
            | nils => simp at h
            | nilf => simp at h
            | ref => simp at h
            | fn => simp at h
            | agg => simp at h
            | tup => simp at h
          · cases h
    | _ => simp [indexAddrA] at h
  | _ => simp [indexAddrA] at h

theorem part_ok {Q : Nat → Prop} {t : TypeId} {cs : List V} {cs' : Array Value} {j : Nat} {p : Prop} {v : V} (h : partA P t cs j = some (p, v)) (hp : p) (hc : vrels μ st Q w cs cs') :
    ∃ y, (part t cs' j).run P w = .ok y w ∧ vrel μ st Q w v y := by
  unfold partA at h
  cases ha : aggA P t with
  | none => simp [ha] at h
  | some b =>
    cases b with
    | true =>
      simp only [ha, Option.some.injEq, Prod.mk.injEq] at h
      obtain ⟨rfl, rfl⟩ := h
      have hp := Nat.le_of_ble_eq_true hp
      refine ⟨.agg (cs'.extract j (j + szA P t)), by simp [part, runAgg ha, runSize ha], .agg _ _ (by have := hc.1; simp; omega) (fun k v hk => ?_)⟩
      have hk' : k < szA P t := by have := lt_of_get? hk; simp at this; omega
      rw [List.getElem?_take, if_pos hk', List.getElem?_drop] at hk
      have := hc.2 (j + k) v hk
      rw [Array.getD_eq_getD_getElem?, Array.getElem?_extract, if_pos (by have := hc.1; omega)]
      rwa [Array.getD_eq_getD_getElem?] at this
    | false =>
      simp only [ha, Option.some.injEq, Prod.mk.injEq] at h
      obtain ⟨rfl, rfl⟩ := h
      have hp : j < cs.length := Nat.le_of_ble_eq_true hp
      have hj := getD_get? (d := V.undef) hp
      have hlt : j < cs'.size := by rw [hc.1]; exact hp
      refine ⟨cs'.getD j Go.undef, ?_, hc.2 j _ hj⟩
      simp only [part, runAgg ha, Sem.run_bind, Result.andThen_ok, Bool.false_eq_true, if_false]
      rw [getD_of_lt hlt]
      rfl

def fieldA (P : Program) (t : TypeId) (x : V) (f : Nat) : Option (Prop × V) :=
  match (fieldsA P t).bind (·[f]?), x with
  | some ⟨_, ty, off, _, _, _, _⟩, .agg cs => partA P ty cs off
  | _, _ => none
theorem fieldA_ok (hs : srel D μ st w) {t : TypeId} {x v : V} {f : Nat} {p : Prop} {x' : Value} (h : fieldA P t x f = some (p, v)) (hp : p) (hx : vrel μ st (qd D μ st w) w x x') : Does P D μ st w (Instr.field t x' f) v st := by
  unfold fieldA at h
  cases hf : (fieldsA P t).bind (·[f]?) with
  | none => simp [hf] at h
  | some fd =>
    obtain ⟨fs, hfs, hfd⟩ := Option.bind_eq_some_iff.1 hf
    have hu : P.underlying t = some (.struct fs) := by
      unfold fieldsA at hfs
      split at hfs
      · rename_i fs' hu; cases hfs; exact hu
      · cases hfs
    cases hx with
    | agg cs cs' h1 h2 =>
      simp only [hf] at h
      obtain ⟨y, hy, hv⟩ := part_ok (P := P) (μ := μ) (st := st) (w := w) (Q := qd D μ st w) h hp ⟨h1, h2⟩
      exact Does.same hs (by simpa [Instr.field, run_underlying hu, hfd, asAgg] using hy) hv
    | i => simp [hf] at h
    | undef => simp [hf] at h
    | nils => simp [hf] at h
    | nilf => simp [hf] at h
    | ref => simp [hf] at h
    | ptr => simp [hf] at h
    | iptr => simp [hf] at h
    | fn => simp [hf] at h
    | tup => simp [hf] at h

def isStr (P : Program) (t : TypeId) : Bool := match P.underlying t with | some .string => true | _ => false
theorem isStr_ok {t : TypeId} (h : isStr P t = true) : P.underlying t = some .string := by
  unfold isStr at h; split at h
  · assumption
  · cases h

def indexA (P : Program) (t : TypeId) (x : V) : V → Option (Prop × V)
  | .i (.int _ i) => match arrA P t, x with
    | some (n, el), .agg cs => (partA P el cs (i.toNat * szA P el)).map fun (p, v) => ((0 ≤ i ∧ i < n) ∧ p, v)
    | none, .i (.str s) => if isStr P t = true then some (0 ≤ i ∧ i < s.size, .i (.int .u8 (s.data.getD i.toNat 0).toNat)) else none
    | _, _ => none
  | _ => none
theorem indexA_ok (hs : srel D μ st w) {t : TypeId} {x ix v : V} {p : Prop} {x' ix' : Value} (h : indexA P t x ix = some (p, v)) (hp : p) (hx : vrel μ st (qd D μ st w) w x x') (hi : vrel μ st (qd D μ st w) w ix ix') :
    Does P D μ st w (Instr.index t x' ix') v st := by
  cases hi with
  | @i ix _ hi =>
    cases hi with
    | int k i =>
      unfold indexA at h
      simp only at h
      cases har : arrA P t with
      | some ne =>
        obtain ⟨n, el⟩ := ne
        have hu := arrA_ok har
        cases hx with
        | agg cs cs' h1 h2 =>
          simp only [har, Option.map_eq_some_iff] at h
          obtain ⟨⟨p', v'⟩, h3, h4⟩ := h
          simp only [Prod.mk.injEq] at h4
          obtain ⟨rfl, rfl⟩ := h4
          obtain ⟨⟨p1, p2⟩, p3⟩ := hp
          obtain ⟨b, hb⟩ : ∃ b, aggA P el = some b := by
            unfold partA at h3
            cases ha : aggA P el with
            | none => simp [ha] at h3
            | some b => exact ⟨b, rfl⟩
          obtain ⟨y, hy, hv⟩ := part_ok (P := P) (μ := μ) (st := st) (w := w) (Q := qd D μ st w) h3 p3 ⟨h1, h2⟩
          exact Does.same hs (by simpa [Instr.index, asIntOf, run_underlying hu, p1, p2, runSize hb] using hy) hv
        | i => simp [har] at h
        | undef => simp [har] at h
        | nils => simp [har] at h
        | nilf => simp [har] at h
        | ref => simp [har] at h
        | ptr => simp [har] at h
        | iptr => simp [har] at h
        | fn => simp [har] at h
        | tup => simp [har] at h
      | none =>
        cases hx with
        | @i x _ hx =>
          cases hx with
          | str s =>
            simp only [har] at h
            split at h
            · rename_i hu'
              have hu := isStr_ok hu'
              simp only [Option.some.injEq, Prod.mk.injEq] at h
              obtain ⟨rfl, rfl⟩ := h
              obtain ⟨p1, p2⟩ := hp
              have hlt : i.toNat < s.size := by omega
              refine Does.same hs (y := .int .u8 (s.data.getD i.toNat 0).toNat) ?_ (.i (.int _ _))
              have hg : s[i.toNat]? = some (s.data.getD i.toNat 0) := by
                have h1 : s[i.toNat]? = some s[i.toNat] := getElem?_pos s i.toNat hlt
                rw [h1]
                congr 1
                have h2 : i.toNat < s.data.size := hlt
                simp only [Array.getD, h2, dif_pos]
                rfl
              simp [Instr.index, asIntOf, run_underlying hu, p1, hg]
            · cases h
          | _ => simp [har] at h
        | _ => simp [har] at h
    | _ => simp [indexA] at h
  | _ => simp [indexA] at h

def extractA (x : V) (i : Nat) : Option V := match x with | .tup vs => vs[i]? | _ => none
theorem extractA_ok (hs : srel D μ st w) {x v : V} {i : Nat} {x' : Value} (h : extractA x i = some v) (hx : vrel μ st (qd D μ st w) w x x') : Does P D μ st w (Instr.extract x' i) v st := by
  cases hx with
  | tup cs cs' h1 h2 =>
    have hlt : i < cs'.size := by rw [h1]; exact lt_of_get? h
    exact Does.same hs (y := cs'.getD i Go.undef) (by simp only [Instr.extract, getD_of_lt hlt]; rfl) (h2 i v h)
  | _ => simp [extractA] at h
end
end Go.Proofs.YtdbmfnhbgacldaaDoor.Am
