/- The logic: states that say less; loops. -/
import Derived.Test.YtdbmfnhbgacldaaDoorAmM
namespace Go.Proofs.YtdbmfnhbgacldaaDoor.Am
set_option autoImplicit false
set_option linter.unusedVariables false
set_option linter.unusedSimpArgs false

/-- the second state says no more than the first -/
def Le (n : Nat) (s s' : S) : Prop :=
  ∀ (D : Nat → Prop) μ a w, n ≤ s.st.length → Rel D μ s a w → ∃ μ', Rel D μ' s' a w ∧ Fr μ s.st w μ' s'.st w ∧ Ev n μ s.st μ' s'.st

theorem Le.refl (n : Nat) (s : S) : Le n s s := fun D μ a w hn hr => ⟨μ, hr, Fr.refl _ _ _, Ev.refl hn⟩
theorem Le.trans {n : Nat} {s s' s'' : S} (h : Le n s s') (k : Le n s' s'') : Le n s s'' := by
  intro D μ a w hn hr
  obtain ⟨μ1, r1, f1, e1⟩ := h D μ a w hn hr
  obtain ⟨μ2, r2, f2, e2⟩ := k D μ1 a w e1.1 r1
  exact ⟨μ2, r2, f1.trans f2, e1.trans e2⟩

theorem least_of (p : Nat → Prop) (h : ∃ k, p k) : ∃ k, p k ∧ ∀ j, p j → k ≤ j := by
  obtain ⟨k, hk⟩ := h
  induction k using Nat.strongRecOn with
  | _ k ih =>
    by_cases hj : ∃ j, j < k ∧ p j
    · obtain ⟨j, hlt, hp⟩ := hj
      exact ih j hlt hp
    · exact ⟨k, hk, fun j hp => Nat.le_of_not_lt fun hlt => hj ⟨j, hlt, hp⟩⟩

section
variable {P : Program} {G : Gl} {own : Tmp → Bool} {n : Nat}

theorem W.le {c : Code} {Q : Exit → S → Prop} {s s' : S} (h : Le n s s') (k : W P G n c Q s') : W P G n c Q s := by
  refine ⟨fun D μ a w hn hg hr => ?_⟩
  obtain ⟨μ1, r1, f1, e1⟩ := h D μ a w hn hr
  exact wp_mono (k.out D μ1 a w e1.1 (hg.keep f1) r1) fun e a' w' hp => Post.trans f1 e1 hp
theorem W.mono {c : Code} {Q Q' : Exit → S → Prop} {s : S} (h : W P G n c Q s) (hq : ∀ e s, Q e s → Q' e s) : W P G n c Q' s := by
  refine ⟨fun D μ a w hn hg hr => ?_⟩
  refine wp_mono (h.out D μ a w hn hg hr) fun e a' w' hp => ?_
  obtain ⟨s', μ', h1, h2⟩ := hp
  exact ⟨s', μ', hq _ _ h1, h2⟩

/-- a loop: a family of states, and what falls with each round -/
theorem loop_ok {α : Type} (I : α → S) (Inv : α → Prop) (m : α → Nat) (x0 : α) {c : Code} {Q : Exit → S → Prop} {s : S} (hi : Inv x0) (h0 : Le n s (I x0))
    (round : ∀ x, Inv x → W P G n c (fun e s' => match e with | .normal => ∃ y, Inv y ∧ m y < m x ∧ Le n s' (I y) | e => Q e s') (I x)) : W P G n (.loop c) Q s := by
  classical
  refine ⟨fun D μ a w hn hg hr => ?_⟩
  let R : α → Act → World → Prop := fun x a' w' => Inv x ∧ ∃ μ', Rel D μ' (I x) a' w' ∧ Fr μ s.st w μ' (I x).st w' ∧ Ev n μ s.st μ' (I x).st
  let J : Act → World → Prop := fun a' w' => ∃ x, R x a' w'
  let ok : Act → World → Nat → Prop := fun a' w' k => ∃ x, R x a' w' ∧ m x = k
  let meas : Act → World → Nat := fun a' w' => if h : ∃ k, ok a' w' k then Classical.choose (least_of _ h) else 0
  obtain ⟨μ1, r1, f1, e1⟩ := h0 D μ a w hn hr
  refine wp_loop J meas ⟨x0, hi, μ1, r1, f1, e1⟩ ?_
  rintro a1 w1 ⟨x1, hx1⟩
  have hex : ∃ k, ok a1 w1 k := ⟨m x1, x1, hx1, rfl⟩
  obtain ⟨x, ⟨hix, μx, rx, fx, ex⟩, hmx⟩ := (Classical.choose_spec (least_of _ hex)).1
  have hm1 : meas a1 w1 = Classical.choose (least_of _ hex) := dif_pos hex
  refine wp_mono ((round x hix).out D μx a1 w1 ex.1 (hg.keep fx) rx) fun e a2 w2 hp => ?_
  obtain ⟨s', μ', h1, h2, h3, h4⟩ := hp
  cases e with
  | normal =>
    obtain ⟨y, hiy, hlt, hle⟩ := h1
    obtain ⟨μy, ry, fy, ey⟩ := hle D μ' a2 w2 h4.1 h2
    have hR : R y a2 w2 := ⟨hiy, μy, ry, (fx.trans h3).trans fy, (ex.trans h4).trans ey⟩
    refine ⟨⟨y, hR⟩, ?_⟩
    have hex2 : ∃ k, ok a2 w2 k := ⟨m y, y, hR, rfl⟩
    have hm2 : meas a2 w2 = Classical.choose (least_of _ hex2) := dif_pos hex2
    have := (Classical.choose_spec (least_of _ hex2)).2 (m y) ⟨y, hR, rfl⟩
    rw [hm1, hm2]
    omega
  | _ => exact ⟨s', μ', h1, h2, fx.trans h3, ex.trans h4⟩

/-- slots that are forgotten -/
def leS : List V → List V → Prop
  | [], [] => True
  | x :: xs, y :: ys => (y = .undef ∨ x = y) ∧ leS xs ys
  | _, _ => False
theorem leS_get : ∀ {xs ys : List V}, leS xs ys → xs.length = ys.length ∧ ∀ (j : Nat) (y : V), ys[j]? = some y → y = .undef ∨ xs[j]? = some y
  | [], [], _ => ⟨rfl, by simp⟩
  | x :: xs, y :: ys, h => by
    obtain ⟨l, r⟩ := leS_get h.2
    refine ⟨by simp [l], fun j v hj => ?_⟩
    cases j with
    | zero =>
      simp only [List.getElem?_cons_zero, Option.some.injEq] at hj ⊢
      subst hj
      exact h.1
    | succ j => simpa using r j v (by simpa using hj)
  | [], _ :: _, h => h.elim
  | _ :: _, [], h => h.elim

theorem Le.slots {sl sl' : List V} {st : List Ob} (h : leS sl sl') : Le n ⟨sl, st⟩ ⟨sl', st⟩ := by
  intro D μ a w hn hr
  obtain ⟨l, r⟩ := leS_get h
  refine ⟨μ, ⟨hr.dfr, ⟨by rw [hr.sl.1]; exact l, fun j v hj => ?_⟩, hr.st⟩, Fr.refl _ _ _, Ev.refl hn⟩
  rcases r j v hj with rfl | h1
  · exact .undef _
  · exact hr.sl.2 j v h1

/-- values that name no row from number k on -/
def V.cl (k : Nat) : V → Bool
  | .ref id _ _ _ | .ptr id _ _ _ => decide (id < k)
  | .fn _ a b => clAll k a && clAll k b
  | .agg cs | .tup cs => clAll k cs
  | _ => true
where clAll (k : Nat) : List V → Bool
  | [] => true
  | v :: vs => V.cl k v && clAll k vs
theorem clAll_get {k : Nat} : ∀ {vs : List V}, V.cl.clAll k vs = true → ∀ (j : Nat) (v : V), vs[j]? = some v → v.cl k = true
  | [], _, j, v, hj => by simp at hj
  | u :: us, h, j, v, hj => by
    simp only [V.cl.clAll, Bool.and_eq_true] at h
    cases j with
    | zero => simp at hj; subst hj; exact h.1
    | succ j => exact clAll_get h.2 j v (by simpa using hj)
@[simp] theorem clAll_map_i (k : Nat) (xs : List I) : V.cl.clAll k (xs.map .i) = true := by
  induction xs with
  | nil => rfl
  | cons x xs ih => simp [V.cl.clAll, V.cl, ih]
@[simp] theorem cl_i (k : Nat) (x : I) : V.cl k (.i x) = true := by simp [V.cl]

theorem vrel.short {D : Nat → Prop} {μ : Mu} {st rest : List Ob} {Q : Nat → Prop} {w : World} {v : V} {y : Value} (h : vrel μ (st ++ rest) Q w v y) : ∀ (hc : v.cl st.length = true), vrel μ st Q w v y := by
  induction h with
  | i h => intro _; exact .i h
  | undef y => intro _; exact .undef y
  | nils => intro _; exact .nils
  | nilf => intro _; exact .nilf
  | @ref id ver off len y h =>
    intro hc
    have hid : id < st.length := by simpa [V.cl] using hc
    exact .ref ⟨hid, fun v' s r e h' => h.2 v' s r e (by rw [List.getElem?_append_left hid]; exact h')⟩
  | @ptr id ver e j y h =>
    intro hc
    have hid : id < st.length := by simpa [V.cl] using hc
    exact .ptr ⟨hid, fun v' s r e h' => h.2 v' s r e (by rw [List.getElem?_append_left hid]; exact h')⟩
  | iptr cs j g off xs hQ hw hr => intro _; exact .iptr cs j g off xs hQ hw hr
  | fn f fs cs fs' cs' h1 h2 h3 h4 i3 i4 =>
    intro hc
    simp only [V.cl, Bool.and_eq_true] at hc
    exact .fn f fs cs fs' cs' h1 h2 (fun j v hj => i3 j v hj (clAll_get hc.1 j v hj)) (fun j v hj => i4 j v hj (clAll_get hc.2 j v hj))
  | agg cs cs' h1 h2 ih =>
    intro hc
    simp only [V.cl] at hc
    exact .agg cs cs' h1 (fun j v hj => ih j v hj (clAll_get hc j v hj))
  | tup cs cs' h1 h2 ih =>
    intro hc
    simp only [V.cl] at hc
    exact .tup cs cs' h1 (fun j v hj => ih j v hj (clAll_get hc j v hj))

def Ob.cl (k : Nat) : Ob → Prop
  | .dead => True
  | .row _ _ _ es => ∀ cs ∈ es, V.cl.clAll k cs = true

/-- rows at the store's end are forgotten -/
theorem short_ok {D : Nat → Prop} {μ : Mu} {st rest : List Ob} {w : World} (hs : srel D μ (st ++ rest) w) (hc : ∀ o ∈ st, o.cl st.length) {n : Nat} (hn : n ≤ st.length) :
    srel D μ st w ∧ Fr μ (st ++ rest) w μ st w ∧ Ev n μ (st ++ rest) μ st ∧ ∀ v y, v.cl st.length = true → vrel μ (st ++ rest) (qd D μ (st ++ rest) w) w v y → vrel μ st (qd D μ st w) w v y := by
  have hget : ∀ i, i < st.length → (st ++ rest)[i]? = st[i]? := fun i hi => List.getElem?_append_left hi
  have live' : ∀ g, live μ st g → live μ (st ++ rest) g := by
    rintro g ⟨id, ver, sz, es, m, h1, h2⟩
    exact ⟨id, ver, sz, es, m, by rw [hget id (lt_of_get? h1)]; exact h1, h2⟩
  have hq : ∀ g, qd D μ (st ++ rest) w g → qd D μ st w g ∧ w.heap[g]? = w.heap[g]? := fun g h => ⟨⟨⟨h.1.1, fun hl => h.1.2 (live' g hl)⟩, h.2⟩, rfl⟩
  have hv : ∀ v y, v.cl st.length = true → vrel μ (st ++ rest) (qd D μ (st ++ rest) w) w v y → vrel μ st (qd D μ st w) w v y :=
    fun v y hcl h => vrel.keep (Ev.refl (Nat.le_refl _)) hq (h.short (D := D) hcl)
  refine ⟨⟨hs.dom, fun id ver sz ro es h => ?_, fun i j v1 s1 e1 v2 s2 e2 k m1 m2 h1 h2 => hs.inj i j v1 s1 e1 v2 s2 e2 k m1 m2 (by rw [hget i (lt_of_get? h1)]; exact h1) (by rw [hget j (lt_of_get? h2)]; exact h2)⟩,
    ⟨rfl, rfl, rfl, Nat.le_refl _, fun g hg => ⟨rfl, fun hl => hg.2 (live' g hl)⟩⟩, ⟨hn, fun id hid ver sz ro es h => ⟨ver, ro, es, by rw [hget id (by omega)]; exact h, Nat.le_refl _, fun h => h, fun _ => ⟨rfl, rfl⟩⟩⟩, hv⟩
  rcases hs.row id ver sz ro es (by rw [hget id (lt_of_get? h)]; exact h) with h1 | ⟨g', m', cur', T', lo', hi'', h1, h2, h3, h4, h5, h6, h7, h8, h9⟩
  · exact .inl h1
  · have hco := hc _ (List.mem_of_getElem? h)
    exact .inr ⟨g', m', cur', T', lo', hi'', h1, h2, h3, h4, h5, fun i cs j v a b => hv _ _ (clAll_get (hco cs (List.mem_of_getElem? a)) j v b) (h6 i cs j v a b), fun hr => (hq g' (h7 hr)).1, h8, h9⟩

theorem Le.short {sl : List V} {st rest : List Ob} (hn : n ≤ st.length) (hs : V.cl.clAll st.length sl = true) (ho : ∀ o ∈ st, o.cl st.length) : Le n ⟨sl, st ++ rest⟩ ⟨sl, st⟩ := by
  intro D μ a w _ hr
  obtain ⟨r1, r2, r3, r4⟩ := short_ok hr.st ho hn
  exact ⟨μ, ⟨hr.dfr, ⟨hr.sl.1, fun j v hj => r4 v _ (clAll_get hs j v hj) (hr.sl.2 j v hj)⟩, r1⟩, r2, r3⟩

/-- a slot that holds nil holds a new row without elements -/
theorem Le.nil {sl : List V} {st : List Ob} (t sz : Nat) (ht : sl[t]? = some .nils) : Le n ⟨sl, st⟩ ⟨sl.set t (.ref st.length 1 0 0), st ++ [.row 1 sz false []]⟩ := by
  intro D μ a w hn hr
  obtain ⟨r1, r2, r3, r4⟩ := new_row 1 hr.st (Grow.refl w) (x := none) (sz' := sz) (es' := []) (.inl ⟨rfl, rfl⟩)
  refine ⟨_, ⟨hr.dfr, ⟨by simpa using hr.sl.1, fun j v hj => ?_⟩, r1⟩, r2, r3.mono hn⟩
  by_cases hjt : t = j
  · subst hjt
    have hl := lt_of_get? ht
    rw [getElem?_set_eq' hl] at hj
    cases hj
    have := hr.sl.2 t _ ht
    generalize a.tmps.getD t Go.undef = y at this ⊢
    cases this
    refine .ref ⟨by simp, fun v' s' r' e' h' => ?_⟩
    rw [new_get] at h'; cases h'
    exact ⟨Nat.le_refl _, fun _ => ⟨by simp, .inl ⟨rfl, upd_same _ _ _, rfl⟩⟩⟩
  · simp only at hj
    rw [getElem?_set_ne' hjt] at hj
    exact r4 _ _ (hr.sl.2 j v hj)
end
end Go.Proofs.YtdbmfnhbgacldaaDoor.Am
