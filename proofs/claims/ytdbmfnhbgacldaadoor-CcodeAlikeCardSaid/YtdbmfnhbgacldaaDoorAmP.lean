/- The logic: a contract in a small store serves in a greater one. -/
import Derived.Test.YtdbmfnhbgacldaaDoorAmO
namespace Go.Proofs.YtdbmfnhbgacldaaDoor.Am
set_option autoImplicit false
set_option linter.unusedVariables false
set_option linter.unusedSimpArgs false

/-- rows get other numbers -/
def V.ren (f : Nat → Nat) : V → V
  | .ref id ver off len => .ref (f id) ver off len
  | .ptr id ver e j => .ptr (f id) ver e j
  | .fn g a b => .fn g (renAll f a) (renAll f b)
  | .agg cs => .agg (renAll f cs)
  | .tup cs => .tup (renAll f cs)
  | v => v
where renAll (f : Nat → Nat) : List V → List V
  | [] => []
  | v :: vs => V.ren f v :: renAll f vs
theorem renAll_get (f : Nat → Nat) : ∀ (vs : List V) (j : Nat), (V.ren.renAll f vs)[j]? = (vs[j]?).map (V.ren f)
  | [], j => by simp [V.ren.renAll]
  | v :: vs, j => by
    cases j with
    | zero => simp [V.ren.renAll]
    | succ j => simpa [V.ren.renAll] using renAll_get f vs j
theorem renAll_len (f : Nat → Nat) : ∀ (vs : List V), (V.ren.renAll f vs).length = vs.length
  | [] => rfl
  | v :: vs => by simp [V.ren.renAll, renAll_len f vs]
@[simp] theorem renAll_map_i (f : Nat → Nat) (xs : List I) : V.ren.renAll f (xs.map .i) = xs.map .i := by
  induction xs with
  | nil => rfl
  | cons x xs ih => simp [V.ren.renAll, V.ren, ih]
def Ob.ren (f : Nat → Nat) : Ob → Ob
  | .dead => .dead
  | .row ver sz ro es => .row ver sz ro (es.map (V.ren.renAll f))
@[simp] theorem ren_lift (f : Nat → Nat) (ver sz : Nat) (ro : Bool) (es : List (List I)) : Ob.ren f (.row ver sz ro (lift es)) = .row ver sz ro (lift es) := by
  simp only [Ob.ren, lift, List.map_map]
  congr 1
  apply List.map_congr_left
  intro x _
  simp
@[simp] theorem cl_lift (k ver sz : Nat) (ro : Bool) (es : List (List I)) : Ob.cl k (.row ver sz ro (lift es)) := by
  intro cs hcs
  simp only [lift, List.mem_map] at hcs
  obtain ⟨x, _, rfl⟩ := hcs
  simp

/-- values in which no data lies that has elements -/
def V.sf : V → Bool
  | .i (.sl []) => true
  | .i (.sl _) | .iptr _ _ => false
  | .fn _ a b => sfAll a && sfAll b
  | .agg cs | .tup cs => sfAll cs
  | _ => true
where sfAll : List V → Bool
  | [] => true
  | v :: vs => V.sf v && sfAll vs
def Ob.sf : Ob → Prop
  | .dead => True
  | .row _ _ ro es => ro = false ∧ ∀ cs ∈ es, V.sf.sfAll cs = true
theorem nodup_idx {α : Type} : ∀ {l : List α}, l.Nodup → ∀ (i j : Nat) (a : α), l[i]? = some a → l[j]? = some a → i = j
  | [], _, i, j, a, hi, _ => by simp at hi
  | x :: l, hn, i, j, a, hi, hj => by
    obtain ⟨h1, h2⟩ := List.nodup_cons.1 hn
    cases i with
    | zero =>
      cases j with
      | zero => rfl
      | succ j => simp at hi hj; subst hi; exact absurd (List.mem_of_getElem? hj) h1
    | succ i =>
      cases j with
      | zero => simp at hi hj; subst hj; exact absurd (List.mem_of_getElem? hi) h1
      | succ j => simp at hi hj; rw [nodup_idx h2 i j a hi hj]
theorem sfAll_get : ∀ {vs : List V}, V.sf.sfAll vs = true → ∀ (j : Nat) (v : V), vs[j]? = some v → v.sf = true
  | [], _, j, v, hj => by simp at hj
  | u :: us, h, j, v, hj => by
    simp only [V.sf.sfAll, Bool.and_eq_true] at h
    cases j with
    | zero => simp at hj; subst hj; exact h.1
    | succ j => exact sfAll_get h.2 j v (by simpa using hj)

/-- rows with other numbers in another store: what a value means is the same -/
theorem vrel.ren {μ μ2 : Mu} {st st2 : List Ob} {Q Q2 : Nat → Prop} {w : World} {f : Nat → Nat}
    (href : ∀ id ver off len y, refOK μ st id ver off len y → refOK μ2 st2 (f id) ver off len y) (hptr : ∀ id ver e j y, ptrOK μ st id ver e j y → ptrOK μ2 st2 (f id) ver e j y)
    {v : V} {y : Value} (h : vrel μ st Q w v y) : (∀ g, Q g → Q2 g) ∨ v.sf = true → vrel μ2 st2 Q2 w (v.ren f) y := by
  induction h with
  | @i x y h =>
    rintro (hq | hs)
    · exact .i (h.keep fun g hg => ⟨hq g hg, rfl⟩)
    · cases h with
      | int => exact .i (.int _ _)
      | bool => exact .i (.bool _)
      | str => exact .i (.str _)
      | nilp => exact .i .nilp
      | mp r => exact .i (.mp r)
      | bp r => exact .i (.bp r)
      | sl0 a c => exact .i (.sl0 a c)
      | sl es sz g off c xs hQ hc hs' hw hr =>
        cases es with
        | nil => exact .i (.sl0 _ _)
        | cons e es => simp [V.sf] at hs
  | undef y => intro _; exact .undef y
  | nils => intro _; exact .nils
  | nilf => intro _; exact .nilf
  | ref h => intro _; exact .ref (href _ _ _ _ _ h)
  | ptr h => intro _; exact .ptr (hptr _ _ _ _ _ h)
  | iptr cs j g off xs hQ hw hr =>
    rintro (hq | hs)
    · exact .iptr cs j g off xs (hq g hQ) hw (fun j v h => (hr j v h).keep fun g hg => ⟨hq g hg, rfl⟩)
    · simp [V.sf] at hs
  | fn fn fs cs fs' cs' h1 h2 h3 h4 i3 i4 =>
    intro hq
    refine .fn fn _ _ fs' cs' (by rw [renAll_len, h1]) (by rw [renAll_len, h2]) (fun j v hj => ?_) (fun j v hj => ?_)
    · rw [renAll_get, Option.map_eq_some_iff] at hj
      obtain ⟨u, hu, rfl⟩ := hj
      exact i3 j u hu (hq.imp id fun hs => by simp only [V.sf, Bool.and_eq_true] at hs; exact sfAll_get hs.1 j u hu)
    · rw [renAll_get, Option.map_eq_some_iff] at hj
      obtain ⟨u, hu, rfl⟩ := hj
      exact i4 j u hu (hq.imp id fun hs => by simp only [V.sf, Bool.and_eq_true] at hs; exact sfAll_get hs.2 j u hu)
  | agg cs cs' h1 h2 ih =>
    intro hq
    refine .agg _ cs' (by rw [renAll_len, h1]) (fun j v hj => ?_)
    rw [renAll_get, Option.map_eq_some_iff] at hj
    obtain ⟨u, hu, rfl⟩ := hj
    exact ih j u hu (hq.imp id fun hs => by simp only [V.sf] at hs; exact sfAll_get hs j u hu)
  | tup cs cs' h1 h2 ih =>
    intro hq
    refine .tup _ cs' (by rw [renAll_len, h1]) (fun j v hj => ?_)
    rw [renAll_get, Option.map_eq_some_iff] at hj
    obtain ⟨u, hu, rfl⟩ := hj
    exact ih j u hu (hq.imp id fun hs => by simp only [V.sf] at hs; exact sfAll_get hs j u hu)

/-- the other way round -/
theorem vrel.unren {μ μ2 : Mu} {st st2 : List Ob} {Q Q2 : Nat → Prop} {w : World} {f : Nat → Nat} {k : Nat}
    (href : ∀ id ver off len y, id < k → refOK μ2 st2 (f id) ver off len y → refOK μ st id ver off len y) (hptr : ∀ id ver e j y, id < k → ptrOK μ2 st2 (f id) ver e j y → ptrOK μ st id ver e j y)
    (hq : ∀ g, Q2 g → Q g) : ∀ {y : Value} {u : V}, vrel μ2 st2 Q2 w u y → ∀ v : V, u = v.ren f → v.cl k = true → vrel μ st Q w v y := by
  intro y u h
  induction h with
  | @i x y h =>
    intro v hv hc
    cases v <;> simp [V.ren] at hv
    subst hv
    exact .i (h.keep fun g hg => ⟨hq g hg, rfl⟩)
  | undef y => intro v hv hc; cases v <;> simp [V.ren] at hv; exact .undef y
  | nils => intro v hv hc; cases v <;> simp [V.ren] at hv; exact .nils
  | nilf => intro v hv hc; cases v <;> simp [V.ren] at hv; exact .nilf
  | ref h =>
    intro v hv hc
    cases v <;> simp [V.ren] at hv
    obtain ⟨rfl, rfl, rfl, rfl⟩ := hv
    exact .ref (href _ _ _ _ _ (by simpa [V.cl] using hc) h)
  | ptr h =>
    intro v hv hc
    cases v <;> simp [V.ren] at hv
    obtain ⟨rfl, rfl, rfl, rfl⟩ := hv
    exact .ptr (hptr _ _ _ _ _ (by simpa [V.cl] using hc) h)
  | iptr cs j g off xs hQ hw hr =>
    intro v hv hc
    cases v <;> simp [V.ren] at hv
    obtain ⟨rfl, rfl⟩ := hv
    exact .iptr _ _ g off xs (hq g hQ) hw (fun j v h => (hr j v h).keep fun g hg => ⟨hq g hg, rfl⟩)
  | fn fn fs cs fs' cs' h1 h2 h3 h4 i3 i4 =>
    intro v hv hc
    cases v <;> simp [V.ren] at hv
    rename_i g a b
    obtain ⟨rfl, rfl, rfl⟩ := hv
    simp only [V.cl, Bool.and_eq_true] at hc
    exact .fn _ _ _ fs' cs' (by rw [← renAll_len f, h1]) (by rw [← renAll_len f, h2]) (fun j u hj => i3 j _ (by rw [renAll_get, hj]; rfl) u rfl (clAll_get hc.1 j u hj)) (fun j u hj => i4 j _ (by rw [renAll_get, hj]; rfl) u rfl (clAll_get hc.2 j u hj))
  | agg cs cs' h1 h2 ih =>
    intro v hv hc
    cases v <;> simp [V.ren] at hv
    subst hv
    simp only [V.cl] at hc
    exact .agg _ cs' (by rw [← renAll_len f, h1]) (fun j u hj => ih j _ (by rw [renAll_get, hj]; rfl) u rfl (clAll_get hc j u hj))
  | tup cs cs' h1 h2 ih =>
    intro v hv hc
    cases v <;> simp [V.ren] at hv
    subst hv
    simp only [V.cl] at hc
    exact .tup _ cs' (by rw [← renAll_len f, h1]) (fun j u hj => ih j _ (by rw [renAll_get, hj]; rfl) u rfl (clAll_get hc j u hj))

/-- numbers in the greater store: those handed over, then new ones at its end -/
def fm (ρ : List Nat) (N : Nat) (i : Nat) : Nat := match ρ[i]? with | some j => j | none => N + (i - ρ.length)
def putAll : List Ob → List Nat → List Ob → List Ob
  | big, [], os => big ++ os
  | big, i :: is, o :: os => putAll (big.set i o) is os
  | big, _ :: _, [] => big

theorem putAll_spec : ∀ (ρ : List Nat) (big os : List Ob), (∀ i ∈ ρ, i < big.length) → ρ.Nodup → ρ.length ≤ os.length →
    (putAll big ρ os).length = big.length + (os.length - ρ.length) ∧
    (∀ (id : Nat), id < big.length → id ∉ ρ → (putAll big ρ os)[id]? = big[id]?) ∧
    (∀ (i id : Nat), ρ[i]? = some id → (putAll big ρ os)[id]? = os[i]?) ∧
    (∀ (j : Nat), (putAll big ρ os)[big.length + j]? = os[ρ.length + j]?)
  | [], big, os, _, _, _ => by
    refine ⟨by simp [putAll], fun id hid _ => by simp only [putAll]; exact List.getElem?_append_left hid, fun i id h => by simp at h, fun j => ?_⟩
    simp only [putAll, List.length_nil, Nat.zero_add]
    rw [List.getElem?_append_right (by omega)]
    congr 1; omega
  | i0 :: is, big, o :: os, hlt, hnd, hl => by
    obtain ⟨h1, h2, h3, h4⟩ := putAll_spec is (big.set i0 o) os (fun i hi => by simpa using hlt i (List.mem_cons_of_mem _ hi)) (List.nodup_cons.1 hnd).2 (by simpa using hl)
    have hi0 := hlt i0 List.mem_cons_self
    have hn0 := (List.nodup_cons.1 hnd).1
    refine ⟨by simp only [putAll, h1, List.length_set, List.length_cons]; omega, fun id hid hni => ?_, fun i id hi => ?_, fun j => ?_⟩
    · simp only [List.mem_cons, not_or] at hni
      simp only [putAll]
      rw [h2 id (by simpa using hid) hni.2, getElem?_set_ne' (Ne.symm hni.1)]
    · simp only [putAll]
      cases i with
      | zero =>
        simp only [List.getElem?_cons_zero, Option.some.injEq] at hi
        subst hi
        rw [h2 i0 (by simpa using hi0) hn0, getElem?_set_eq' hi0]
        rfl
      | succ i =>
        simp only [List.getElem?_cons_succ] at hi ⊢
        exact h3 i id hi
    · have := h4 j
      simp only [List.length_set] at this
      simp only [putAll, this, List.length_cons]
      rw [show is.length + 1 + j = (is.length + j) + 1 by omega]
      rfl
  | _ :: _, _, [], _, _, hl => by simp at hl

section
variable {P : Program} {G : Gl}

/-- a contract in a small store, used where the rows ρ of a greater one stand for the small one's; the rows F are lent to the call as data -/
theorem CallW.rise {f : FuncId} {sargs bargs : List V} {st0 big : List Ob} {K : V → List Ob → Prop} (ρ F : List Nat) (h : CallW P G f sargs st0 K) (hlen : st0.length = ρ.length) (hnd : ρ.Nodup) (hlt : ∀ i ∈ ρ, i < big.length)
    (hst : st0.map (Ob.ren (fm ρ big.length)) = ρ.map fun i => big.getD i .dead) (hcl : ∀ o ∈ st0, o.cl st0.length) (hF : ∀ i ∈ F, i ∉ ρ)
    (hal : bargs.length = sargs.length) (hargs : ∀ (j : Nat) (s v : V), sargs[j]? = some s → bargs[j]? = some v → (s.cl st0.length = true ∧ v = s.ren (fm ρ big.length)) ∨
      ∃ id ver off len sz ro is, v = .ref id ver off len ∧ id ∈ F ∧ big[id]? = some (.row ver sz ro (lift is)) ∧ s = .i (.sl ((is.drop off).take len)))
    (hkeep : F = [] ∨ ∀ r st', K r st' → r.sf = true ∧ ∀ o ∈ st', o.sf) :
    CallW P G f bargs big (fun r st' => ∃ r0 st0', K r0 st0' ∧ r = r0.ren (fm ρ big.length) ∧ st' = putAll big ρ (st0'.map (Ob.ren (fm ρ big.length)))) := by
  classical
  refine ⟨h.enter, fun D μ w args' hg ha hs => ?_⟩
  -- the numbers
  have hfm1 : ∀ (i id : Nat), ρ[i]? = some id → fm ρ big.length i = id := fun i id hi => by simp [fm, hi]
  have hfm2 : ∀ i, ρ.length ≤ i → fm ρ big.length i = big.length + (i - ρ.length) := fun i hi => by simp [fm, hi]
  have hinj : ∀ i j, fm ρ big.length i = fm ρ big.length j → i = j := by
    intro i j hij
    rcases Nat.lt_or_ge i ρ.length with hi | hi
    · have ei := List.getElem?_eq_getElem hi
      have li := hlt _ (List.getElem_mem hi)
      rcases Nat.lt_or_ge j ρ.length with hj | hj
      · have ej := List.getElem?_eq_getElem hj
        rw [hfm1 _ _ ei, hfm1 _ _ ej] at hij
        exact nodup_idx hnd i j _ ei (by rw [ej, hij])
      · rw [hfm1 _ _ ei, hfm2 _ hj] at hij; omega
    · rcases Nat.lt_or_ge j ρ.length with hj | hj
      · have ej := List.getElem?_eq_getElem hj
        have lj := hlt _ (List.getElem_mem hj)
        rw [hfm2 _ hi, hfm1 _ _ ej] at hij; omega
      · rw [hfm2 _ hi, hfm2 _ hj] at hij; omega
  have hsm : ∀ (i : Nat) (o : Ob), st0[i]? = some o → ∃ id, ρ[i]? = some id ∧ big[id]? = some (o.ren (fm ρ big.length)) := by
    intro i o hi
    have hil : i < ρ.length := by rw [← hlen]; exact lt_of_get? hi
    have e := List.getElem?_eq_getElem hil
    have := congrArg (·[i]?) hst
    simp only [List.getElem?_map, hi, e, Option.map_some, Option.some.injEq] at this
    exact ⟨_, e, by rw [this]; exact getD_get? (hlt _ (List.getElem_mem hil))⟩
  let μs : Mu := fun i => μ (fm ρ big.length i)
  let Ds : Nat → Prop := fun g => D g ∧ ∀ id ver sz es m, id ∉ ρ → id ∉ F → big[id]? = some (.row ver sz false es) → μ id = some (g, m) → False
  have hrow0 : ∀ (i ver sz : Nat) (ro : Bool) (es : List (List V)), st0[i]? = some (.row ver sz ro es) → ∃ id, ρ[i]? = some id ∧ fm ρ big.length i = id ∧ big[id]? = some (.row ver sz ro (es.map (V.ren.renAll (fm ρ big.length)))) := by
    intro i ver sz ro es hi
    obtain ⟨id, h1, h2⟩ := hsm i _ hi
    exact ⟨id, h1, hfm1 _ _ h1, h2⟩
  have hlive0 : ∀ g, live μs st0 g → live μ big g := by
    rintro g ⟨i, ver, sz, es, m, h1, h2⟩
    obtain ⟨id, _, e2, e3⟩ := hrow0 _ _ _ _ _ h1
    exact ⟨id, ver, sz, _, m, e3, by rw [← e2]; exact h2⟩
  have hq0 : ∀ g, qd D μ big w g → qd Ds μs st0 w g := by
    intro g hgq
    refine ⟨⟨hgq.1.1, fun hl => hgq.1.2 (hlive0 g hl)⟩, hgq.2, fun id ver sz es m _ _ h1 h2 => hgq.1.2 ⟨id, ver, sz, es, m, h1, h2⟩⟩
  have href0 : ∀ id ver off len y, id < st0.length → refOK μ big (fm ρ big.length id) ver off len y → refOK μs st0 id ver off len y := by
    intro id ver off len y hid hr
    refine ⟨hid, fun v' s' r' e' h' => ?_⟩
    obtain ⟨id', _, e2, e3⟩ := hrow0 _ _ _ _ _ h'
    rw [e2] at hr
    have := hr.2 _ _ _ _ e3
    simp only [List.length_map] at this
    rw [← e2] at this
    exact this
  have hptr0 : ∀ id ver e j y, id < st0.length → ptrOK μ big (fm ρ big.length id) ver e j y → ptrOK μs st0 id ver e j y := by
    intro id ver e j y hid hr
    refine ⟨hid, fun v' s' r' e' h' => ?_⟩
    obtain ⟨id', _, e2, e3⟩ := hrow0 _ _ _ _ _ h'
    rw [e2] at hr
    have := hr.2 _ _ _ _ e3
    simp only [List.length_map] at this
    rw [← e2] at this
    exact this
  have hun : ∀ v y, v.cl st0.length = true → vrel μ big (qd D μ big w) w (v.ren (fm ρ big.length)) y → vrel μs st0 (qd Ds μs st0 w) w v y :=
    fun v y hc hv => vrel.unren href0 hptr0 hq0 hv v rfl hc
  have hs0 : srel Ds μs st0 w := by
    refine ⟨fun g hgs => ⟨hs.dom g hgs, fun id ver sz es m _ _ h1 h2 => by have := live_lt hs ⟨id, ver, sz, es, m, h1, h2⟩; omega⟩, fun i ver sz ro es hi => ?_, fun i j v1 s1 e1 v2 s2 e2 g m1 m2 h1 h2 h3 h4 => ?_⟩
    · obtain ⟨id, e1, e2, e3⟩ := hrow0 _ _ _ _ _ hi
      have hco := hcl _ (List.mem_of_getElem? hi)
      rcases hs.row id ver sz ro _ e3 with ⟨b1, b2⟩ | ⟨g, m, cur, T, lo, hi', b1, b2, b3, b4, b5, b6, b7, b8, b9⟩
      · exact .inl ⟨by simpa using b1, by show μ _ = none; rw [e2]; exact b2⟩
      · refine .inr ⟨g, m, cur, T, lo, hi', by show μ _ = _; rw [e2]; exact b1, b2, b3, by simpa using b4, fun i cs hcs => ?_, fun i cs j v hcs hj => ?_, fun hr => hq0 g (b7 hr), ⟨b8, fun id' ver' sz' es' m' hn1 hn2 h1 h2 => ?_⟩, b9⟩
        · have := b5 i (V.ren.renAll (fm ρ big.length) cs) (by simp [hcs])
          rwa [renAll_len] at this
        · exact hun _ _ (clAll_get (hco cs (List.mem_of_getElem? hcs)) j v hj) (b6 i (V.ren.renAll (fm ρ big.length) cs) j (v.ren (fm ρ big.length)) (by simp only [List.getElem?_map, hcs, Option.map_some]) (by rw [renAll_get, hj]; rfl))
        · cases ro with
          | true => exact (b7 rfl).1.2 ⟨id', ver', sz', es', m', h1, h2⟩
          | false =>
            have := hs.inj id' id ver' sz' es' ver sz _ g m' m h1 e3 h2 b1
            subst this
            exact hn1 (List.mem_of_getElem? e1)
    · obtain ⟨id1, a1, a2, a3⟩ := hrow0 _ _ _ _ _ h1
      obtain ⟨id2, c1, c2, c3⟩ := hrow0 _ _ _ _ _ h2
      have := hs.inj id1 id2 _ _ _ _ _ _ g m1 m2 a3 c3 (by rw [← a2]; exact h3) (by rw [← c2]; exact h4)
      exact hinj i j (by rw [a2, c2, this])
  have hg0 : GOk Ds G μs st0 w := by
    intro g cs hgc
    obtain ⟨q1, xs, q2, q3⟩ := hg g cs hgc
    exact ⟨hq0 g q1, xs, q2, fun j v hj => (q3 j v hj).keep fun g hg => ⟨hq0 g hg, rfl⟩⟩
  have ha0 : vrels μs st0 (qd Ds μs st0 w) w sargs args' := by
    refine ⟨by rw [ha.1, hal], fun j s hj => ?_⟩
    have hjb : j < bargs.length := by rw [hal]; exact lt_of_get? hj
    have hv := ha.2 j _ (List.getElem?_eq_getElem hjb)
    rcases hargs j s _ hj (List.getElem?_eq_getElem hjb) with ⟨c1, c2⟩ | ⟨id, ver, off, len, sz, ro, is, c1, c2, c3, rfl⟩
    · rw [c2] at hv; exact hun _ _ c1 hv
    · rw [c1] at hv
      cases hv with | ref hv =>
      -- the row is lent as data
      refine .i ?_
      obtain ⟨h4, h5⟩ := (hv.2 _ _ _ _ c3).2 rfl
      have hl : (lift is).length = is.length := by simp [lift]
      rw [hl] at h4 h5
      have hlen' : ((is.drop off).take len).length = len := by simp; omega
      generalize args'.getD j Go.undef = y at hv h5
      rcases h5 with ⟨a1, a2, rfl⟩ | ⟨g, k, c, a1, rfl, a3, a4, a5⟩ | ⟨a1, a2, a, c, rfl⟩
      · rw [show (is.drop off).take len = [] from List.eq_nil_of_length_eq_zero (by omega)]; exact .sl0 _ _
      · by_cases h0 : len = 0
        · rw [show (is.drop off).take len = [] from List.eq_nil_of_length_eq_zero (by omega), h0]; exact .sl0 _ _
        · rcases hs.row id ver sz ro _ c3 with ⟨hnil, _⟩ | ⟨g', k', cur, T, lo, hi, b1, b2, b3, b4, b5, b6, b7, b8, b9⟩
          · rw [hnil] at hl; simp at hl; omega
          · rw [a1] at b1
            obtain ⟨rfl, rfl⟩ := Prod.mk.inj (Option.some.inj b1)
            have hgq : qd Ds μs st0 w g := by
              refine ⟨⟨row_lt b2, ?_⟩, b8, ?_⟩
              · rintro ⟨i', ver', sz', es', k'', d1, d2⟩
                obtain ⟨id', e1, e2, e3⟩ := hrow0 _ _ _ _ _ d1
                cases ro with
                | true => exact (b7 rfl).1.2 ⟨id', ver', sz', _, k'', e3, by rw [← e2]; exact d2⟩
                | false =>
                  have := hs.inj id' id _ _ _ _ _ _ g k'' k e3 c3 (by rw [← e2]; exact d2) a1
                  subst this
                  exact hF _ c2 (List.mem_of_getElem? e1)
              · intro id' ver' sz' es' m' hn1 hn2 d1 d2
                cases ro with
                | true => exact (b7 rfl).1.2 ⟨id', ver', sz', es', m', d1, d2⟩
                | false =>
                  have := hs.inj id' id _ _ _ _ _ _ g m' k d1 c3 d2 a1
                  subst this
                  exact hn2 c2
            have hget : ∀ (i : Nat) (cs : List I), ((is.drop off).take len)[i]? = some cs → i < len ∧ (lift is)[off + i]? = some (cs.map .i) := by
              intro i cs hi
              have hil := lt_of_get? hi
              rw [hlen'] at hil
              rw [List.getElem?_take, if_pos hil, List.getElem?_drop] at hi
              exact ⟨hil, by simp [lift, hi]⟩
            have := irel.sl (Q := qd Ds μs st0 w) (w := w) ((is.drop off).take len) sz g (off * sz) c (fun i j => cur.getD ((off + i) * sz + j) Go.undef) hgq (by omega)
              (fun i cs hi => by have := b5 _ _ (hget i cs hi).2; simpa using this)
              (fun i cs j v hi hj => by
                obtain ⟨h1, h2⟩ := hget i cs hi
                have hsz := b5 _ _ h2
                have hjl := lt_of_get? hj
                simp only [List.length_map] at hsz
                have hle : (off + i + 1) * sz ≤ (lift is).length * sz := Nat.mul_le_mul_right _ (by omega)
                rw [Nat.add_mul, Nat.one_mul] at hle
                rw [cell_of_row w g _ cur T _ b2]
                rw [show off * sz + (i * sz + j) = (off + i) * sz + j by rw [Nat.add_mul]; omega, getD_of_lt (by omega)])
              (fun i cs j v hi hj => by
                obtain ⟨h1, h2⟩ := hget i cs hi
                have := b6 _ _ j (.i v) h2 (by simp [hj])
                cases this with | i h => exact h.keep fun g hg => ⟨hq0 g hg, rfl⟩)
            rw [hlen'] at this
            exact this
      · rw [show (is.drop off).take len = [] from List.eq_nil_of_length_eq_zero (by omega)]; exact .sl0 _ _
  -- the call
  refine (h.calls Ds μs w args' hg0 ha0 hs0).mono fun e w' he => ?_
  obtain ⟨r0, r', st0', μs', rfl, hK, hv, hs', hf', he'⟩ := he
  have hk' : ρ.length ≤ st0'.length := by rw [← hlen]; exact he'.1
  obtain ⟨p1, p2, p3, p4⟩ := putAll_spec ρ big (st0'.map (Ob.ren (fm ρ big.length))) hlt hnd (by simpa using hk')
  let big' := putAll big ρ (st0'.map (Ob.ren (fm ρ big.length)))
  let μ' : Mu := fun id => if hx : ∃ i, fm ρ big.length i = id then μs' (Classical.choose hx) else μ id
  have hμ1 : ∀ i, μ' (fm ρ big.length i) = μs' i := by
    intro i
    have hx : ∃ i', fm ρ big.length i' = fm ρ big.length i := ⟨i, rfl⟩
    show (if hx : ∃ i', fm ρ big.length i' = fm ρ big.length i then μs' (Classical.choose hx) else _) = _
    rw [dif_pos hx, hinj _ _ (Classical.choose_spec hx)]
  have hμ2 : ∀ id, (∀ i, fm ρ big.length i ≠ id) → μ' id = μ id := fun id hn => dif_neg (fun ⟨i, hi⟩ => hn i hi)
  have hnot : ∀ id, id < big.length → id ∉ ρ → ∀ i, fm ρ big.length i ≠ id := by
    intro id hid hni i hi
    rcases Nat.lt_or_ge i ρ.length with hil | hil
    · have ei := List.getElem?_eq_getElem hil
      rw [hfm1 _ _ ei] at hi
      exact hni (hi ▸ List.getElem_mem hil)
    · rw [hfm2 _ hil] at hi; omega
  have hb1 : ∀ (i : Nat) (o : Ob), st0'[i]? = some o → big'[fm ρ big.length i]? = some (o.ren (fm ρ big.length)) := by
    intro i o hi
    rcases Nat.lt_or_ge i ρ.length with hil | hil
    · have ei := List.getElem?_eq_getElem hil
      rw [hfm1 _ _ ei, p3 i _ ei, List.getElem?_map, hi]; rfl
    · rw [hfm2 _ hil, p4 (i - ρ.length), List.getElem?_map, show ρ.length + (i - ρ.length) = i by omega, hi]; rfl
  have hb2 : ∀ (id : Nat) (o : Ob), big'[id]? = some o → (∃ i o0, id = fm ρ big.length i ∧ st0'[i]? = some o0 ∧ o = o0.ren (fm ρ big.length)) ∨ (id < big.length ∧ id ∉ ρ ∧ big[id]? = some o) := by
    intro id o hid
    by_cases hl : id < big.length
    · by_cases hm : id ∈ ρ
      · obtain ⟨i, hil, rfl⟩ := List.getElem_of_mem hm
        have ei := List.getElem?_eq_getElem hil
        rw [p3 i _ ei, List.getElem?_map, Option.map_eq_some_iff] at hid
        obtain ⟨o0, ho, rfl⟩ := hid
        exact .inl ⟨i, o0, (hfm1 _ _ ei).symm, ho, rfl⟩
      · rw [p2 id hl hm] at hid
        exact .inr ⟨hl, hm, hid⟩
    · obtain ⟨j, rfl⟩ : ∃ j, id = big.length + j := ⟨id - big.length, by omega⟩
      rw [p4 j, List.getElem?_map, Option.map_eq_some_iff] at hid
      obtain ⟨o0, ho, rfl⟩ := hid
      exact .inl ⟨ρ.length + j, o0, by rw [hfm2 _ (by omega)]; congr 1; omega, ho, rfl⟩
  have hrow' : ∀ (i ver sz : Nat) (ro : Bool) (es : List (List V)), st0'[i]? = some (.row ver sz ro es) → big'[fm ρ big.length i]? = some (.row ver sz ro (es.map (V.ren.renAll (fm ρ big.length)))) := fun i ver sz ro es hi => hb1 i _ hi
  -- who is live
  have hlive' : ∀ g, live μ' big' g → live μs' st0' g ∨ ∃ id ver sz es m, id ∉ ρ ∧ big[id]? = some (.row ver sz false es) ∧ μ id = some (g, m) := by
    rintro g ⟨id, ver, sz, es, m, h1, h2⟩
    rcases hb2 id _ h1 with ⟨i, o0, rfl, ho, he⟩ | ⟨hl, hn, hb⟩
    · cases o0 with
      | dead => simp [Ob.ren] at he
      | row v' s' r' e' =>
        simp only [Ob.ren, Ob.row.injEq] at he
        obtain ⟨rfl, rfl, rfl, rfl⟩ := he
        rw [hμ1] at h2
        exact .inl ⟨i, _, _, _, m, ho, h2⟩
    · rw [hμ2 _ (hnot id hl hn)] at h2
      exact .inr ⟨id, ver, sz, es, m, hn, hb, h2⟩
  have hlive2 : ∀ g, live μs' st0' g → live μ' big' g := by
    rintro g ⟨i, ver, sz, es, m, h1, h2⟩
    exact ⟨_, ver, sz, _, m, hrow' _ _ _ _ _ h1, by rw [hμ1]; exact h2⟩
  -- what lay in the greater store and is foreign to the call
  have hforeign : ∀ (id ver sz : Nat) (es : List (List V)) (g m : Nat), id ∉ ρ → big[id]? = some (.row ver sz false es) → μ id = some (g, m) → prot μs st0 w g := by
    intro id ver sz es g m hn h1 h2
    refine ⟨live_lt hs ⟨id, ver, sz, es, m, h1, h2⟩, ?_⟩
    rintro ⟨i, ver', sz', es', m', d1, d2⟩
    obtain ⟨id', e1, e2, e3⟩ := hrow0 _ _ _ _ _ d1
    have := hs.inj id' id _ _ _ _ _ _ g m' m e3 h1 (by rw [← e2]; exact d2) h2
    subst this
    exact hn (List.mem_of_getElem? e1)
  have hq1 : ∀ g, qd D μ big w g → qd D μ' big' w' g ∧ w'.heap[g]? = w.heap[g]? := by
    intro g hgq
    have hp := (hq0 g hgq).1
    obtain ⟨e1, e2⟩ := hf'.prot g hp
    refine ⟨⟨⟨Nat.lt_of_lt_of_le hgq.1.1 hf'.size, fun hl => ?_⟩, hgq.2⟩, e1⟩
    rcases hlive' g hl with hl | ⟨id, ver, sz, es, m, hn, h1, h2⟩
    · exact e2 hl
    · exact hgq.1.2 ⟨id, ver, sz, es, m, h1, h2⟩
  have hev : Ev big.length μ big μ' big' := by
    refine ⟨by rw [p1]; omega, fun id hid ver sz ro es h1 => ?_⟩
    rcases hb2 id _ h1 with ⟨i, o0, rfl, ho, he⟩ | ⟨hl, hn, hb⟩
    · cases o0 with
      | dead => simp [Ob.ren] at he
      | row v' s' r' e' =>
        simp only [Ob.ren, Ob.row.injEq] at he
        obtain ⟨rfl, rfl, rfl, rfl⟩ := he
        have hil : i < st0.length := by
          rcases Nat.lt_or_ge i ρ.length with hil | hil
          · omega
          · rw [hfm2 _ hil] at hid; omega
        obtain ⟨ver0, ro0, es0, c1, c2, c3, c4⟩ := he'.2 i hil _ _ _ _ ho
        obtain ⟨id', e1, e2, e3⟩ := hrow0 _ _ _ _ _ c1
        refine ⟨ver0, ro0, _, by rw [e2]; exact e3, c2, c3, fun hv => ?_⟩
        obtain ⟨c5, c6⟩ := c4 hv
        exact ⟨by simpa using c5, by rw [hμ1, c6]⟩
    · exact ⟨ver, ro, es, hb, Nat.le_refl _, fun h => h, fun _ => ⟨rfl, hμ2 _ (hnot id hl hn)⟩⟩
  have hkeepv : ∀ v y, vrel μ big (qd D μ big w) w v y → vrel μ' big' (qd D μ' big' w') w' v y := fun v y hv => hv.keep hev hq1
  have href1 : ∀ id ver off len y, refOK μs' st0' id ver off len y → refOK μ' big' (fm ρ big.length id) ver off len y := by
    intro id ver off len y hr
    have hidl : fm ρ big.length id < big'.length := by
      have : ∃ o, st0'[id]? = some o := ⟨_, List.getElem?_eq_getElem hr.1⟩
      obtain ⟨o, ho⟩ := this
      exact lt_of_get? (hb1 id o ho)
    refine ⟨hidl, fun v' s' r' e' h' => ?_⟩
    rcases hb2 _ _ h' with ⟨i, o0, hi, ho, he⟩ | ⟨hl, hn, _⟩
    · have := hinj _ _ hi; subst this
      cases o0 with
      | dead => simp [Ob.ren] at he
      | row v2 s2 r2 e2 =>
        simp only [Ob.ren, Ob.row.injEq] at he
        obtain ⟨rfl, rfl, rfl, rfl⟩ := he
        have := hr.2 _ _ _ _ ho
        simp only [List.length_map, hμ1]
        exact this
    · exact absurd rfl (hnot _ hl hn id)
  have hptr1 : ∀ id ver e j y, ptrOK μs' st0' id ver e j y → ptrOK μ' big' (fm ρ big.length id) ver e j y := by
    intro id ver e j y hr
    have hidl : fm ρ big.length id < big'.length := by
      obtain ⟨o, ho⟩ : ∃ o, st0'[id]? = some o := ⟨_, List.getElem?_eq_getElem hr.1⟩
      exact lt_of_get? (hb1 id o ho)
    refine ⟨hidl, fun v' s' r' e' h' => ?_⟩
    rcases hb2 _ _ h' with ⟨i, o0, hi, ho, he⟩ | ⟨hl, hn, _⟩
    · have := hinj _ _ hi; subst this
      cases o0 with
      | dead => simp [Ob.ren] at he
      | row v2 s2 r2 e2 =>
        simp only [Ob.ren, Ob.row.injEq] at he
        obtain ⟨rfl, rfl, rfl, rfl⟩ := he
        have := hr.2 _ _ _ _ ho
        simp only [List.length_map, hμ1]
        exact this
    · exact absurd rfl (hnot _ hl hn id)
  -- data of the call's own, or handed through
  have hqs : F = [] → ∀ g, qd Ds μs' st0' w' g → qd D μ' big' w' g := by
    intro hF0 g hgq
    refine ⟨⟨hgq.1.1, fun hl => ?_⟩, hgq.2.1⟩
    rcases hlive' g hl with hl | ⟨id, ver, sz, es, m, hn, h1, h2⟩
    · exact hgq.1.2 hl
    · exact hgq.2.2 id ver sz es m hn (by rw [hF0]; simp) h1 h2
  have hren : ∀ v y, (F = [] ∨ v.sf = true) → vrel μs' st0' (qd Ds μs' st0' w') w' v y → vrel μ' big' (qd D μ' big' w') w' (v.ren (fm ρ big.length)) y :=
    fun v y hc hv => hv.ren href1 hptr1 (hc.imp hqs id)
  have hsbig : srel D μ' big' w' := by
    refine ⟨fun g hgs => hs.dom g (Nat.le_trans hf'.size hgs), fun id ver sz ro es h1 => ?_, fun i j v1 s1 e1 v2 s2 e2 g m1 m2 h1 h2 h3 h4 => ?_⟩
    · rcases hb2 id _ h1 with ⟨i, o0, rfl, ho, he⟩ | ⟨hl, hn, hb⟩
      · cases o0 with
        | dead => simp [Ob.ren] at he
        | row v' s' r' e' =>
          simp only [Ob.ren, Ob.row.injEq] at he
          obtain ⟨rfl, rfl, rfl, rfl⟩ := he
          rcases hs'.row i _ _ _ _ ho with ⟨b1, b2⟩ | ⟨g, m, cur, T, lo, hi', b1, b2, b3, b4, b5, b6, b7, b8, b9⟩
          · exact .inl ⟨by simp [b1], by rw [hμ1]; exact b2⟩
          · refine .inr ⟨g, m, cur, T, lo, hi', by rw [hμ1]; exact b1, b2, b3, by simpa using b4, fun i' cs hcs => ?_, fun i' cs j v hcs hj => ?_, fun hr => ?_, b8.1, b9⟩
            · simp only [List.getElem?_map, Option.map_eq_some_iff] at hcs
              obtain ⟨cs0, hc0, rfl⟩ := hcs
              rw [renAll_len]; exact b5 i' cs0 hc0
            · simp only [List.getElem?_map, Option.map_eq_some_iff] at hcs
              obtain ⟨cs0, hc0, rfl⟩ := hcs
              rw [renAll_get, Option.map_eq_some_iff] at hj
              obtain ⟨v0, hv0, rfl⟩ := hj
              exact hren _ _ (hkeep.imp id fun hk => sfAll_get (((hk _ _ hK).2 _ (List.mem_of_getElem? ho)).2 cs0 (List.mem_of_getElem? hc0)) j v0 hv0) (b6 i' cs0 j v0 hc0 hv0)
            · -- a row that nobody changes: its block is no live one's
              have h7 := b7 hr
              refine ⟨⟨h7.1.1, fun hl => ?_⟩, b8.1⟩
              rcases hlive' g hl with hl | ⟨id', ver'', sz'', es'', m'', hn', d1, d2⟩
              · exact h7.1.2 hl
              · by_cases hF' : id' ∈ F
                · rcases hkeep with hk | hk
                  · rw [hk] at hF'; simp at hF'
                  · have := ((hk _ _ hK).2 _ (List.mem_of_getElem? ho)).1
                    rw [this] at hr; simp at hr
                · exact h7.2.2 id' ver'' sz'' es'' m'' hn' hF' d1 d2
      · have hμid := hμ2 _ (hnot id hl hn)
        rcases hs.row id ver sz ro es hb with ⟨b1, b2⟩ | ⟨g, m, cur, T, lo, hi', b1, b2, b3, b4, b5, b6, b7, b8, b9⟩
        · exact .inl ⟨b1, by rw [hμid]; exact b2⟩
        · have hpr : prot μs st0 w g := by
            cases ro with
            | true => exact (hq0 g (b7 rfl)).1
            | false => exact hforeign id ver sz es g m hn hb b1
          exact .inr ⟨g, m, cur, T, lo, hi', by rw [hμid]; exact b1, (hf'.prot g hpr).1.trans b2, b3, b4, b5, fun i cs j v a b => hkeepv _ _ (b6 i cs j v a b), fun hr => (hq1 g (b7 hr)).1, b8, b9⟩
    · rcases hb2 i _ h1 with ⟨i1, o1, rfl, ho1, he1⟩ | ⟨hl1, hn1, hb1'⟩
      · cases o1 with
        | dead => simp [Ob.ren] at he1
        | row v' s' r' e' =>
          simp only [Ob.ren, Ob.row.injEq] at he1
          obtain ⟨rfl, rfl, rfl, rfl⟩ := he1
          rw [hμ1] at h3
          rcases hb2 j _ h2 with ⟨i2, o2, rfl, ho2, he2⟩ | ⟨hl2, hn2, hb2'⟩
          · cases o2 with
            | dead => simp [Ob.ren] at he2
            | row v'' s'' r'' e'' =>
              simp only [Ob.ren, Ob.row.injEq] at he2
              obtain ⟨rfl, rfl, rfl, rfl⟩ := he2
              rw [hμ1] at h4
              rw [hs'.inj i1 i2 _ _ _ _ _ _ g m1 m2 ho1 ho2 h3 h4]
          · rw [hμ2 _ (hnot j hl2 hn2)] at h4
            have hpr := hforeign j _ _ _ g m2 hn2 hb2' h4
            exact absurd ⟨i1, _, _, _, m1, ho1, h3⟩ (hf'.prot g hpr).2
      · rw [hμ2 _ (hnot i hl1 hn1)] at h3
        rcases hb2 j _ h2 with ⟨i2, o2, rfl, ho2, he2⟩ | ⟨hl2, hn2, hb2'⟩
        · cases o2 with
          | dead => simp [Ob.ren] at he2
          | row v'' s'' r'' e'' =>
            simp only [Ob.ren, Ob.row.injEq] at he2
            obtain ⟨rfl, rfl, rfl, rfl⟩ := he2
            rw [hμ1] at h4
            have hpr := hforeign i _ _ _ g m1 hn1 hb1' h3
            exact absurd ⟨i2, _, _, _, m2, ho2, h4⟩ (hf'.prot g hpr).2
        · rw [hμ2 _ (hnot j hl2 hn2)] at h4
          exact hs.inj i j _ _ _ _ _ _ g m1 m2 hb1' hb2' h3 h4
  have hfr : Fr μ big w μ' big' w' := by
    refine ⟨hf'.os, hf'.tape, hf'.output, hf'.size, fun g hgp => ?_⟩
    have hp : prot μs st0 w g := ⟨hgp.1, fun hl => hgp.2 (hlive0 g hl)⟩
    obtain ⟨e1, e2⟩ := hf'.prot g hp
    refine ⟨e1, fun hl => ?_⟩
    rcases hlive' g hl with hl | ⟨id, ver, sz, es, m, hn, h1, h2⟩
    · exact e2 hl
    · exact hgp.2 ⟨id, ver, sz, es, m, h1, h2⟩
  exact ⟨_, r', big', μ', rfl, ⟨r0, st0', hK, rfl, rfl⟩, hren _ _ (hkeep.imp id fun hk => (hk _ _ hK).1) hv, hsbig, hfr, hev⟩
end
end Go.Proofs.YtdbmfnhbgacldaaDoor.Am
