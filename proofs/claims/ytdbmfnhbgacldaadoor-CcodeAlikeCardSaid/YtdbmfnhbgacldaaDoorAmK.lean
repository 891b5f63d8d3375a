/- Operations of the model on abstract states: windows, lengths, least and greatest. -/
import Derived.Test.YtdbmfnhbgacldaaDoorAmJ
import Derived.Laws.Small
namespace Go.Proofs.YtdbmfnhbgacldaaDoor.Am
set_option autoImplicit false
set_option linter.unusedVariables false
set_option linter.unusedSimpArgs false
section
variable {P : Program} {D : Nat → Prop} {μ : Mu} {st : List Ob} {w : World}

/-- a bound that may be left out -/
def bndA (d : Int) : Option V → Option Int
  | none => some d
  | some (.i (.int _ n)) => some n
  | some _ => none
def sliceA (P : Program) (st : List Ob) (t : TypeId) (x : V) (lo hi : Option V) : Option (Prop × V) :=
  match elemA P t with
  | some el => if (aggA P el).isSome = true then
      match x with
      | .i (.sl es) => match bndA 0 lo, bndA es.length hi with
        | some l, some h => some ((0 ≤ l ∧ l ≤ h ∧ h ≤ es.length ∧ ∀ cs ∈ es, cs.length = szA P el), .i (.sl ((es.drop l.toNat).take (h.toNat - l.toNat))))
        | _, _ => none
      | .nils => match bndA 0 lo, bndA 0 hi with
        | some l, some h => some (0 ≤ l ∧ l ≤ h ∧ h ≤ 0, .nils)
        | _, _ => none
      | .ref id ver off len => match st[id]? with
        | some (.row ver' sz _ _) => if ver = ver' ∧ sz = szA P el then match bndA 0 lo, bndA len hi with
            | some l, some h => some (0 ≤ l ∧ l ≤ h ∧ h ≤ len, .ref id ver (off + l.toNat) (h.toNat - l.toNat))
            | _, _ => none
          else none
        | _ => none
      | _ => none
    else none
  | none => if isStr P t = true then match x with
      | .i (.str s) => match bndA 0 lo, bndA s.size hi with
        | some l, some h => some (0 ≤ l ∧ l ≤ h ∧ h ≤ s.size, .i (.str (s.extract l.toNat h.toNat)))
        | _, _ => none
      | _ => none
    else none

def optRel (μ : Mu) (st : List Ob) (Q : Nat → Prop) (w : World) : Option V → Option Value → Prop
  | none, none => True
  | some x, some y => vrel μ st Q w x y
  | _, _ => False

theorem bounds_ok {Q : Nat → Prop} {lo hi : Option V} {lo' hi' : Option Value} {b : Bool} {len cap : Nat} {l h : Int} (hlo : optRel μ st Q w lo lo') (hhi : optRel μ st Q w hi hi') (h1 : bndA 0 lo = some l) (h2 : bndA len hi = some h)
    (q1 : 0 ≤ l) (q2 : l ≤ h) (q3 : h ≤ len) (hc : len ≤ cap) : (Instr.sliceBounds b len cap lo' hi' none).run P w = .ok (l.toNat, h.toNat, cap) w := by
  have hb : ∀ (k : IntKind) (x : Int) (y : Nat) (code : BoundsCode), 0 ≤ x → x ≤ y → (Instr.sliceBound (.int k x) y code).run P w = .ok x.toNat w := by
    intro k x y code a1 a2
    simp [Instr.sliceBound, asIntOf, a1, a2]
  cases hi with
  | none =>
    cases hi' with
    | some _ => exact hhi.elim
    | none =>
      simp only [bndA, Option.some.injEq] at h2
      subst h2
      cases lo with
      | none =>
        cases lo' with
        | some _ => exact hlo.elim
        | none =>
          simp only [bndA, Option.some.injEq] at h1
          subst h1
          simp [Instr.sliceBounds]
      | some x =>
        cases lo' with
        | none => exact hlo.elim
        | some x' =>
          simp only [bndA] at h1
          split at h1
          · rename_i hx; cases hx
          · rename_i k n hx
            cases hx; cases h1
            cases hlo with | i hlo => cases hlo with | int =>
            simp [Instr.sliceBounds, hb _ l len _ q1 (by omega)]
          · cases h1
  | some y =>
    cases hi' with
    | none => exact hhi.elim
    | some y' =>
      simp only [bndA] at h2
      split at h2
      · rename_i hx; cases hx
      · rename_i k n hx
        cases hx; cases h2
        cases hhi with | i hhi => cases hhi with | int =>
        have hr := hb k h cap (if b then .sliceAcap else .sliceAlen) (by omega) (by omega)
        cases lo with
        | none =>
          cases lo' with
          | some _ => exact hlo.elim
          | none =>
            simp only [bndA, Option.some.injEq] at h1
            subst h1
            simp [Instr.sliceBounds, hr]
        | some x =>
          cases lo' with
          | none => exact hlo.elim
          | some x' =>
            simp only [bndA] at h1
            split at h1
            · rename_i hx; cases hx
            · rename_i k' n hx
              cases hx; cases h1
              cases hlo with | i hlo => cases hlo with | int =>
              have hr2 := hb k' l h.toNat .sliceB q1 (by omega)
              simp [Instr.sliceBounds, hr, hr2]
            · cases h1
      · cases h2

theorem sliceA_ok (hs : srel D μ st w) {t : TypeId} {x v : V} {lo hi : Option V} {p : Prop} {x' : Value} {lo' hi' : Option Value} (h : sliceA P st t x lo hi = some (p, v)) (hp : p) (hx : vrel μ st (qd D μ st w) w x x')
    (hlo : optRel μ st (qd D μ st w) w lo lo') (hhi : optRel μ st (qd D μ st w) w hi hi') : Does P D μ st w (Instr.sliceAt t x' lo' hi' none) v st := by
  unfold sliceA at h
  cases he : elemA P t with
  | some el =>
    have hu := elemA_ok he
    simp only [he] at h
    split at h
    · rename_i ha
      obtain ⟨b, hb⟩ := Option.isSome_iff_exists.1 ha
      have key : ∀ (a : Option Addr) (n c : Nat) (l h : Int), x' = .slice a n c → (Instr.sliceBounds true n c lo' hi' none).run P w = .ok (l.toNat, h.toNat, c) w →
          (Instr.sliceAt t x' lo' hi' none).run P w = .ok (.slice (if c = l.toNat then a else a.map (·.add (l.toNat * szA P el))) (h.toNat - l.toNat) (c - l.toNat)) w := by
        rintro a n c l h rfl hbd
        simp [Instr.sliceAt, Instr.slice, run_underlying hu, hbd, runSize hb]
      split at h
      · rename_i es
        split at h
        · rename_i l hh hl1 hh1
          cases h
          obtain ⟨q1, q2, q3, q4⟩ := hp
          cases hx with | i hx =>
          cases hx with
          | sl0 a c =>
            have hbd := bounds_ok (P := P) (b := true) (cap := c) hlo hhi hl1 hh1 q1 q2 (by simpa using q3) (Nat.zero_le _)
            simp only [List.length_nil] at hbd q3
            have hr := key a 0 c l hh rfl hbd
            have hz : hh.toNat - l.toNat = 0 := by omega
            rw [hz] at hr ⊢
            exact Does.same hs hr (by simpa using vrel.i (irel.sl0 _ _))
          | sl _ sz g off c xs hQ hc hz hw hr =>
            have hbd := bounds_ok (P := P) (b := true) (cap := c) hlo hhi hl1 hh1 q1 q2 q3 hc
            have hrun := key _ _ c l hh rfl hbd
            by_cases hem : hh.toNat - l.toNat = 0
            · rw [hem] at hrun ⊢
              exact Does.same hs hrun (by simpa using vrel.i (irel.sl0 _ _))
            · have hlc : ¬ c = l.toNat := by omega
              rw [if_neg hlc] at hrun
              refine Does.same hs hrun ?_
              have hlen : ((es.drop l.toNat).take (hh.toNat - l.toNat)).length = hh.toNat - l.toNat := by simp; omega
              have hsz : szA P el = sz := by
                have h0 : es[l.toNat]? = some (es.getD l.toNat []) := getD_get? (by omega)
                rw [← q4 _ (List.mem_of_getElem? h0), hz _ _ h0]
              have hget : ∀ (i : Nat) (cs : List I), ((es.drop l.toNat).take (hh.toNat - l.toNat))[i]? = some cs → es[l.toNat + i]? = some cs := by
                intro i cs hi
                have := lt_of_get? hi
                rw [List.getElem?_take, if_pos (by omega), List.getElem?_drop] at hi
                exact hi
              have := irel.sl (Q := qd D μ st w) (w := w) ((es.drop l.toNat).take (hh.toNat - l.toNat)) sz g (off + l.toNat * sz) (c - l.toNat) (fun i j => xs (l.toNat + i) j) hQ (by omega)
                (fun i cs hi => hz _ cs (hget i cs hi)) (fun i cs j v hi hj => by
                  have := hw _ cs j v (hget i cs hi) hj
                  rw [Nat.add_mul] at this
                  rw [← this]; congr 2; omega) (fun i cs j v hi hj => hr _ cs j v (hget i cs hi) hj)
              rw [hlen] at this
              simp only [Option.map_some, Addr.add_lit, hsz]
              exact .i this
        · cases h
      · split at h
        · rename_i l hh hl1 hh1
          cases h
          obtain ⟨q1, q2, q3⟩ := hp
          cases hx
          have hbd := bounds_ok (P := P) (b := true) (cap := 0) (len := 0) hlo hhi hl1 hh1 q1 q2 (by simpa using q3) (Nat.le_refl _)
          have hr := key none 0 0 l hh rfl hbd
          have h1 : hh.toNat - l.toNat = 0 := by omega
          rw [h1] at hr
          have hl0 : l.toNat = 0 := by omega
          rw [hl0] at hr
          exact Does.same hs hr (by simpa using vrel.nils)
        · cases h
      · rename_i id ver off len
        split at h
        · rename_i ver' sz ro es hid
          split at h
          · rename_i hcc
            obtain ⟨rfl, rfl⟩ := hcc
            split at h
            · rename_i l hh hl1 hh1
              cases h
              obtain ⟨q1, q2, q3⟩ := hp
              cases hx with | ref hx =>
              obtain ⟨h4, h5⟩ := (hx.2 _ _ _ _ hid).2 rfl
              have fin : ∀ y, (off + l.toNat + (hh.toNat - l.toNat) ≤ es.length ∧ ((es.length = 0 ∧ μ id = none ∧ y = .slice none 0 0) ∨ (∃ g m c, μ id = some (g, m) ∧ y = .slice (some ⟨g, (off + l.toNat) * szA P el, none⟩) (hh.toNat - l.toNat) c ∧ hh.toNat - l.toNat ≤ c ∧ c ≤ maxLen ∧ (off + l.toNat + c) * szA P el ≤ m) ∨
                  (hh.toNat - l.toNat = 0 ∧ 0 < off + l.toNat ∧ ∃ a c, y = .slice a 0 c))) → vrel μ st (qd D μ st w) w (.ref id ver (off + l.toNat) (hh.toNat - l.toNat)) y := by
                intro y hy
                refine .ref ⟨hx.1, fun v' s' r' e' h' => ?_⟩
                rw [hid] at h'; cases h'
                exact ⟨Nat.le_refl _, fun _ => hy⟩
              rcases h5 with ⟨a1, a2, rfl⟩ | ⟨g, m, c, a1, rfl, a3, a4, a5⟩ | ⟨a1, a2, a, c, rfl⟩
              · have hl0 : len = 0 := by omega
                subst hl0
                have hbd := bounds_ok (P := P) (b := true) (cap := 0) (len := 0) hlo hhi hl1 hh1 q1 q2 (by simpa using q3) (Nat.le_refl _)
                have hr := key none 0 0 l hh rfl hbd
                have h1 : hh.toNat - l.toNat = 0 := by omega
                have hl0 : l.toNat = 0 := by omega
                refine Does.same hs hr (fin _ ⟨by omega, .inl ⟨a1, a2, by rw [h1, hl0]; rfl⟩⟩)
              · have hbd := bounds_ok (P := P) (b := true) (cap := c) hlo hhi hl1 hh1 q1 q2 q3 a3
                have hr := key _ _ c l hh rfl hbd
                by_cases hcl : c = l.toNat
                · rw [if_pos hcl] at hr
                  by_cases hl0 : l.toNat = 0
                  · refine Does.same hs hr (fin _ ⟨by omega, .inr (.inl ⟨g, m, c - l.toNat, a1, by rw [hl0, Nat.add_zero], by omega, by omega, by rw [hl0, Nat.add_zero, Nat.sub_zero]; exact a5⟩)⟩)
                  · refine Does.same hs hr (fin _ ⟨by omega, .inr (.inr ⟨by omega, by omega, _, c - l.toNat, by rw [show hh.toNat - l.toNat = 0 by omega]⟩)⟩)
                · rw [if_neg hcl] at hr
                  refine Does.same hs hr (fin _ ⟨by omega, .inr (.inl ⟨g, m, c - l.toNat, a1, by simp only [Option.map_some, Addr.add_lit, Nat.add_mul], by omega, by omega, by rw [show off + l.toNat + (c - l.toNat) = off + c by omega]; exact a5⟩)⟩)
              · subst a1
                have hbd := bounds_ok (P := P) (b := true) (cap := c) (len := 0) hlo hhi hl1 hh1 q1 q2 (by simpa using q3) (Nat.zero_le _)
                have hr := key a 0 c l hh rfl hbd
                have h1 : hh.toNat - l.toNat = 0 := by omega
                rw [h1] at hr
                exact Does.same hs hr (fin _ ⟨by omega, .inr (.inr ⟨h1, by omega, _, _, rfl⟩)⟩)
            · cases h
          · cases h
        · cases h
      · cases h
    · cases h
  | none =>
    simp only [he] at h
    split at h
    · rename_i hst
      have hu := isStr_ok hst
      split at h
      · rename_i s
        split at h
        · rename_i l hh hl1 hh1
          cases h
          obtain ⟨q1, q2, q3⟩ := hp
          cases hx with | i hx => cases hx with | str =>
          have hbd := bounds_ok (P := P) (b := false) (cap := s.size) hlo hhi hl1 hh1 q1 q2 q3 (Nat.le_refl _)
          exact Does.same hs (y := .string (s.extract l.toNat hh.toNat)) (by simp [Instr.sliceAt, Instr.slice, run_underlying hu, hbd]) (.i (.str _))
        · cases h
      · cases h
    · cases h

/-- a length -/
def lenA (P : Program) (st : List Ob) (t : TypeId) : V → Option V
  | .i (.str s) => if isStr P t = true then some (.i (.int .i64 s.size)) else none
  | .i (.sl es) => if (elemA P t).isSome = true then some (.i (.int .i64 es.length)) else none
  | .nils => if (elemA P t).isSome = true then some (.i (.int .i64 0)) else none
  | .ref id ver off len => if (elemA P t).isSome = true ∧ (V.ref id ver off len).known st = true then some (.i (.int .i64 len)) else none
  | .agg cs => match arrA P t with | some (n, _) => some (.i (.int .i64 n)) | none => none
  | _ => none
theorem ref_len {id ver off len : Nat} {y : Value} (hk : (V.ref id ver off len).known st = true) (h : refOK μ st id ver off len y) : ∃ a c, y = .slice a len c := by
  obtain ⟨sz, ro, es, hid⟩ := known_ref hk
  obtain ⟨h4, h5⟩ := (h.2 _ _ _ _ hid).2 rfl
  rcases h5 with ⟨a1, a2, rfl⟩ | ⟨g, m, c, a1, rfl, a3, a4, a5⟩ | ⟨a1, a2, a, c, rfl⟩
  · exact ⟨none, 0, by rw [show len = 0 by omega]⟩
  · exact ⟨_, _, rfl⟩
  · exact ⟨a, c, by rw [a1]⟩
theorem lenA_ok (hs : srel D μ st w) {t ty : TypeId} {x v : V} {x' : Value} (h : lenA P st t x = some v) (hx : vrel μ st (qd D μ st w) w x x') : Does P D μ st w (Builtin.len_ #[t] ty #[x']) v st := by
  have sl : ∀ (e : TypeId) (a : Option Addr) (n c : Nat), elemA P t = some e → x' = .slice a n c → Does P D μ st w (Builtin.len_ #[t] ty #[x']) (.i (.int .i64 n)) st := by
    rintro e a n c he rfl
    exact Does.same hs (y := .int .i64 n) (by simp [Builtin.len_, run_underlying (elemA_ok he), goInt]) (.i (.int _ _))
  unfold lenA at h
  split at h
  · rename_i s
    split at h
    · rename_i hst
      cases h
      cases hx with | i hx => cases hx with | str =>
      exact Does.same hs (y := .int .i64 s.size) (by simp [Builtin.len_, run_underlying (isStr_ok hst), goInt]) (.i (.int _ _))
    · cases h
  · rename_i es
    split at h
    · rename_i he
      obtain ⟨e, he⟩ := Option.isSome_iff_exists.1 he
      cases h
      cases hx with | i hx =>
      cases hx with
      | sl0 a c => exact sl e _ _ _ he rfl
      | sl => exact sl e _ _ _ he rfl
    · cases h
  · split at h
    · rename_i he
      obtain ⟨e, he⟩ := Option.isSome_iff_exists.1 he
      cases h
      cases hx
      exact sl e _ _ _ he rfl
    · cases h
  · rename_i id ver off len
    split at h
    · rename_i hc
      obtain ⟨e, he⟩ := Option.isSome_iff_exists.1 hc.1
      cases h
      cases hx with | ref hx =>
      obtain ⟨a, c, rfl⟩ := ref_len hc.2 hx
      exact sl e _ _ _ he rfl
    · cases h
  · rename_i cs
    split at h
    · rename_i n e he
      cases h
      exact Does.same hs (y := .int .i64 n) (by simp [Builtin.len_, run_underlying (arrA_ok he), goInt]) (.i (.int _ _))
    · cases h
  · cases h

/-- the least, the greatest of two -/
def mmA (big : Bool) : List V → Option V
  | [.i (.int k x), .i (.int _ y)] => some (.i (.int k (if big = true then (if y > x then y else x) else (if y < x then y else x))))
  | _ => none
theorem mmA_ok (hs : srel D μ st w) {big : Bool} {ts : Array TypeId} {ty : TypeId} {xs : List V} {v : V} {xs' : Array Value} (h : mmA big xs = some v) (hx : vrels μ st (qd D μ st w) w xs xs') :
    Does P D μ st w (if big = true then Builtin.max_ ts ty xs' else Builtin.min_ ts ty xs') v st := by
  unfold mmA at h
  split at h
  · rename_i k x k' y
    cases h
    obtain ⟨h1, h2⟩ := hx
    have hx0 := h2 0 _ rfl
    have hx1 := h2 1 _ rfl
    obtain ⟨a, b, rfl⟩ : ∃ a b, xs' = #[a, b] := by
      obtain ⟨l⟩ := xs'
      match l, h1 with
      | [a, b], _ => exact ⟨a, b, rfl⟩
    simp only [Array.getD, List.size_toArray, List.length_cons, List.length_nil, Nat.zero_add, Nat.reduceAdd, Nat.reduceLT, dif_pos] at hx0 hx1
    cases hx0 with | i hx0 => cases hx1 with | i hx1 =>
    revert hx0 hx1
    intro hx0 hx1
    have e0 : a = .int k x := by cases hx0; rfl
    have e1 : b = .int k' y := by cases hx1; rfl
    subst e0; subst e1
    cases big with
    | true => exact Does.same hs (y := .int k (if y > x then y else x)) (by simpa using run_max_int2 w ts ty k k' x y) (by simpa using vrel.i (irel.int _ _))
    | false => exact Does.same hs (y := .int k (if y < x then y else x)) (by simpa using run_min_int2 w ts ty k k' x y) (by simpa using vrel.i (irel.int _ _))
  · cases h
end
end Go.Proofs.YtdbmfnhbgacldaaDoor.Am
