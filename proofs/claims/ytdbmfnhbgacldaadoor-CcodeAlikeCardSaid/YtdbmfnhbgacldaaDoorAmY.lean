/- The logic: a row told as data; a weaker end. -/
import Derived.Test.YtdbmfnhbgacldaaDoorAmX
namespace Go.Proofs.YtdbmfnhbgacldaaDoor.Am
set_option autoImplicit false
set_option linter.unusedVariables false
set_option linter.unusedSimpArgs false
/-- windows of row id, told as data -/
def V.dat (id ver : Nat) (is : List (List I)) : V → V
  | .ref k v off len => if k = id then (if v = ver then .i (.sl ((is.drop off).take len)) else .undef) else .ref k v off len
  | .ptr k v e j => if k = id then .undef else .ptr k v e j
  | .fn g a b => .fn g (datAll id ver is a) (datAll id ver is b)
  | .agg cs => .agg (datAll id ver is cs)
  | .tup cs => .tup (datAll id ver is cs)
  | v => v
where datAll (id ver : Nat) (is : List (List I)) : List V → List V
  | [] => []
  | v :: vs => V.dat id ver is v :: datAll id ver is vs
theorem datAll_get (id ver : Nat) (is : List (List I)) : ∀ (vs : List V) (j : Nat), (V.dat.datAll id ver is vs)[j]? = (vs[j]?).map (V.dat id ver is)
  | [], j => by simp [V.dat.datAll]
  | v :: vs, j => by
    cases j with
    | zero => simp [V.dat.datAll]
    | succ j => simpa [V.dat.datAll] using datAll_get id ver is vs j
theorem datAll_len (id ver : Nat) (is : List (List I)) : ∀ (vs : List V), (V.dat.datAll id ver is vs).length = vs.length
  | [] => rfl
  | v :: vs => by simp [V.dat.datAll, datAll_len id ver is vs]
@[simp] theorem datAll_map_i (id ver : Nat) (is : List (List I)) (xs : List I) : V.dat.datAll id ver is (xs.map .i) = xs.map .i := by
  induction xs with
  | nil => rfl
  | cons x xs ih => simp [V.dat.datAll, V.dat, ih]
@[simp] theorem map_dat_lift (id ver : Nat) (is es : List (List I)) : (lift es).map (V.dat.datAll id ver is) = lift es := by
  simp only [lift, List.map_map]
  apply List.map_congr_left
  intro x _
  simp
def Ob.dat (id ver : Nat) (is : List (List I)) : Ob → Ob
  | .dead => .dead
  | .row v sz ro es => .row v sz ro (es.map (V.dat.datAll id ver is))
section
variable {D : Nat → Prop} {μ : Mu} {st : List Ob} {w : World} {P : Program} {G : Gl}
/-- what lies in a row's block, told as data, whoever may not change it -/
theorem row_irel {Q : Nat → Prop} (hs : srel D μ st w) {id ver sz : Nat} {ro : Bool} {is : List (List I)} (hid : st[id]? = some (.row ver sz ro (lift is))) (hQ : ∀ g m, μ id = some (g, m) → Q g) (hq : ∀ g, qd D μ st w g → Q g) {off len : Nat} {y : Value} (hy : refOK μ st id ver off len y) :
    irel Q w (.sl ((is.drop off).take len)) y := by
  obtain ⟨h4, h5⟩ := (hy.2 _ _ _ _ hid).2 rfl
  have hl : (lift is).length = is.length := by simp [lift]
  rw [hl] at h4 h5
  have hlen : ((is.drop off).take len).length = len := by simp; omega
  rcases h5 with ⟨a1, a2, rfl⟩ | ⟨g, k, c, a1, rfl, a3, a4, a5⟩ | ⟨a1, a2, a, c, rfl⟩
  · have : (is.drop off).take len = [] := List.eq_nil_of_length_eq_zero (by omega)
    rw [this]; exact .sl0 _ _
  · by_cases h0 : len = 0
    · have : (is.drop off).take len = [] := List.eq_nil_of_length_eq_zero (by omega)
      rw [this, h0]; exact .sl0 _ _
    · rcases hs.row id ver sz ro _ hid with ⟨hnil, _⟩ | ⟨g', k', cur, T, lo, hi, b1, b2, b3, b4, b5, b6, b7, b8, b9⟩
      · rw [hnil] at hl; simp at hl; omega
      · rw [a1] at b1
        obtain ⟨rfl, rfl⟩ := Prod.mk.inj (Option.some.inj b1)
        have hget : ∀ (i : Nat) (cs : List I), ((is.drop off).take len)[i]? = some cs → i < len ∧ (lift is)[off + i]? = some (cs.map .i) := by
          intro i cs hi
          have hil := lt_of_get? hi
          rw [hlen] at hil
          rw [List.getElem?_take, if_pos hil, List.getElem?_drop] at hi
          exact ⟨hil, by simp [lift, hi]⟩
        have := irel.sl (Q := Q) (w := w) ((is.drop off).take len) sz g (off * sz) c (fun i j => cur.getD ((off + i) * sz + j) Go.undef) (hQ _ _ a1) (by omega)
          (fun i cs hi => by have := b5 _ _ (hget i cs hi).2; simpa using this)
          (fun i cs j v hi hj => by
            obtain ⟨h1, h2⟩ := hget i cs hi
            have hsz := b5 _ _ h2
            have hjl := lt_of_get? hj
            simp only [List.length_map] at hsz
            have hle : (off + i + 1) * sz ≤ (lift is).length * sz := Nat.mul_le_mul_right _ (by omega)
            rw [Nat.add_mul, Nat.one_mul] at hle
            rw [cell_of_row w g _ cur T _ b2]
            rw [show off * sz + (i * sz + j) = (off + i) * sz + j by rw [Nat.add_mul]; omega, getD_of_lt (by omega)])
          (fun i cs j v hi hj => by
            obtain ⟨h1, h2⟩ := hget i cs hi
            have := b6 _ _ j (.i v) h2 (by simp [hj])
            cases this with | i h => exact h.keep fun g hg => ⟨hq g hg, rfl⟩)
        rw [hlen] at this
        exact this
  · have : (is.drop off).take len = [] := List.eq_nil_of_length_eq_zero (by omega)
    rw [this]; exact .sl0 _ _

/-- a row of one's own is given up and told as data from here on -/
theorem Le.data {n : Nat} (id ver sz : Nat) (is : List (List I)) {sl : List V} {st : List Ob} {s : S} (hid : st[id]? = some (.row ver sz false (lift is))) (h1 : leS (sl.map (V.dat id ver is)) s.sl) (h2 : s.st = (st.map (Ob.dat id ver is)).set id .dead) : Le n ⟨sl, st⟩ s := by
  refine Le.trans (s' := ⟨sl.map (V.dat id ver is), s.st⟩) ?_ (Le.slots h1)
  intro D μ a w hn hr
  have hs := hr.st
  have hlt := lt_of_get? hid
  have hget : ∀ (i v s' : Nat) (r : Bool) (e : List (List V)), s.st[i]? = some (.row v s' r e) → i ≠ id ∧ ∃ e0, st[i]? = some (.row v s' r e0) ∧ e = e0.map (V.dat.datAll id ver is) := by
    intro i v s' r e h
    rw [h2] at h
    by_cases hi : id = i
    · subst hi; rw [getElem?_set_eq' (by simpa using hlt)] at h; cases h
    · rw [getElem?_set_ne' hi, List.getElem?_map, Option.map_eq_some_iff] at h
      obtain ⟨o, ho, h⟩ := h
      cases o with
      | dead => simp [Ob.dat] at h
      | row v0 s0 r0 e0 =>
        simp only [Ob.dat, Ob.row.injEq] at h
        obtain ⟨rfl, rfl, rfl, rfl⟩ := h
        exact ⟨Ne.symm hi, e0, ho, rfl⟩
  have hput : ∀ (i v s' : Nat) (r : Bool) (e : List (List V)), i ≠ id → st[i]? = some (.row v s' r e) → s.st[i]? = some (.row v s' r (e.map (V.dat.datAll id ver is))) := by
    intro i v s' r e hi h
    rw [h2, getElem?_set_ne' (Ne.symm hi), List.getElem?_map, h]; rfl
  have hlv : ∀ k, live μ s.st k → live μ st k ∧ ∀ m, μ id ≠ some (k, m) := by
    rintro k ⟨i, v, s', e, m', h1, h2⟩
    obtain ⟨hi, e0, h3, _⟩ := hget _ _ _ _ _ h1
    refine ⟨⟨i, v, s', e0, m', h3, h2⟩, fun m hk => ?_⟩
    exact hi (hs.inj i id v s' e0 ver sz _ k m' m h3 hid h2 hk)
  have hq : ∀ k, qd D μ st w k → qd D μ s.st w k := fun k hk => ⟨⟨hk.1.1, fun h => hk.1.2 (hlv k h).1⟩, hk.2⟩
  have hQ : ∀ g m, μ id = some (g, m) → qd D μ s.st w g := by
    intro g m hg
    rcases hs.row id ver sz false _ hid with ⟨_, b2⟩ | ⟨g', m', cur, T, lo, hi', b1, b2, b3, b4, b5, b6, b7, b8, b9⟩
    · rw [b2] at hg; cases hg
    · rw [b1] at hg; cases hg
      exact ⟨⟨row_lt b2, fun h => (hlv g h).2 m b1⟩, b8⟩
  have hlen : s.st.length = st.length := by rw [h2]; simp
  have hv : ∀ {v : V} {y : Value}, vrel μ st (qd D μ st w) w v y → vrel μ s.st (qd D μ s.st w) w (v.dat id ver is) y := by
    intro v y h
    induction h with
    | i h => exact .i (h.keep fun g hg => ⟨hq g hg, rfl⟩)
    | undef y => exact .undef y
    | nils => exact .nils
    | nilf => exact .nilf
    | @ref i v off len y h =>
      simp only [V.dat]
      split
      · rename_i hi; subst hi
        split
        · rename_i hv; subst hv
          exact .i (row_irel hs hid hQ hq h)
        · exact .undef y
      · rename_i hi
        refine .ref ⟨by rw [hlen]; exact h.1, fun v' s' r' e' h' => ?_⟩
        obtain ⟨_, e0, h3, rfl⟩ := hget _ _ _ _ _ h'
        have := h.2 _ _ _ _ h3
        simpa using this
    | @ptr i v e j y h =>
      simp only [V.dat]
      split
      · exact .undef y
      · rename_i hi
        refine .ptr ⟨by rw [hlen]; exact h.1, fun v' s' r' e' h' => ?_⟩
        obtain ⟨_, e0, h3, rfl⟩ := hget _ _ _ _ _ h'
        have := h.2 _ _ _ _ h3
        simpa using this
    | iptr cs j g off xs hQ' hw hr => exact .iptr cs j g off xs (hq g hQ') hw (fun j v h => (hr j v h).keep fun g hg => ⟨hq g hg, rfl⟩)
    | fn fn fs cs fs' cs' h1 h2 h3 h4 i3 i4 =>
      refine .fn fn _ _ fs' cs' (by rw [datAll_len, h1]) (by rw [datAll_len, h2]) (fun j v hj => ?_) (fun j v hj => ?_)
      · rw [datAll_get, Option.map_eq_some_iff] at hj
        obtain ⟨u, hu, rfl⟩ := hj
        exact i3 j u hu
      · rw [datAll_get, Option.map_eq_some_iff] at hj
        obtain ⟨u, hu, rfl⟩ := hj
        exact i4 j u hu
    | agg cs cs' h1 h2 ih =>
      refine .agg _ cs' (by rw [datAll_len, h1]) (fun j v hj => ?_)
      rw [datAll_get, Option.map_eq_some_iff] at hj
      obtain ⟨u, hu, rfl⟩ := hj
      exact ih j u hu
    | tup cs cs' h1 h2 ih =>
      refine .tup _ cs' (by rw [datAll_len, h1]) (fun j v hj => ?_)
      rw [datAll_get, Option.map_eq_some_iff] at hj
      obtain ⟨u, hu, rfl⟩ := hj
      exact ih j u hu
  refine ⟨μ, ⟨hr.dfr, ⟨by simpa using hr.sl.1, fun j v hj => ?_⟩, ⟨hs.dom, fun i v s' r e h => ?_, fun i j v1 s1 e1 v2 s2 e2 k m1 m2 h1 h2 h3 h4 => ?_⟩⟩, ⟨rfl, rfl, rfl, Nat.le_refl _, fun k hk => ⟨rfl, fun h => hk.2 (hlv k h).1⟩⟩, ⟨by rw [hlen]; exact hn, fun i hi v s' r e h => ?_⟩⟩
  · simp only [List.getElem?_map, Option.map_eq_some_iff] at hj
    obtain ⟨u, hu, rfl⟩ := hj
    exact hv (hr.sl.2 j u hu)
  · obtain ⟨hi, e0, h3, rfl⟩ := hget _ _ _ _ _ h
    rcases hs.row i v s' r e0 h3 with ⟨b1, b2⟩ | ⟨g, m, cur, T, lo, hi', b1, b2, b3, b4, b5, b6, b7, b8, b9⟩
    · exact .inl ⟨by simp [b1], b2⟩
    · refine .inr ⟨g, m, cur, T, lo, hi', b1, b2, b3, by simpa using b4, fun i cs hcs => ?_, fun i cs j v hcs hj => ?_, fun hr => hq g (b7 hr), b8, b9⟩
      · simp only [List.getElem?_map, Option.map_eq_some_iff] at hcs
        obtain ⟨c0, hc, rfl⟩ := hcs
        rw [datAll_len]; exact b5 i c0 hc
      · simp only [List.getElem?_map, Option.map_eq_some_iff] at hcs
        obtain ⟨c0, hc, rfl⟩ := hcs
        rw [datAll_get, Option.map_eq_some_iff] at hj
        obtain ⟨u, hu, rfl⟩ := hj
        exact hv (b6 i c0 j u hc hu)
  · obtain ⟨_, _, h5, _⟩ := hget _ _ _ _ _ h1
    obtain ⟨_, _, h6, _⟩ := hget _ _ _ _ _ h2
    exact hs.inj i j _ _ _ _ _ _ k m1 m2 h5 h6 h3 h4
  · obtain ⟨_, e0, h3, rfl⟩ := hget _ _ _ _ _ h
    exact ⟨v, r, e0, h3, Nat.le_refl _, fun h => h, fun _ => ⟨by simp, rfl⟩⟩

/-- an end that says less -/
theorem W.weak {n : Nat} {c : Code} {Q : Exit → S → Prop} {s : S} (h : W P G n c (fun e s' => ∃ s'', Le n s' s'' ∧ Q e s'') s) : W P G n c Q s := by
  refine ⟨fun D μ a w hn hg hr => wp_mono (h.out D μ a w hn hg hr) fun e a' w' hp => ?_⟩
  obtain ⟨s', μ', ⟨s'', h1, h2⟩, h3, h4, h5⟩ := hp
  obtain ⟨μ'', r1, r2, r3⟩ := h1 D μ' a' w' h5.1 h3
  exact ⟨s'', μ'', h2, r1, h4.trans r2, h5.trans r3⟩
end
end Go.Proofs.YtdbmfnhbgacldaaDoor.Am
