/- The logic: rows' versions raised. -/
import Derived.Test.YtdbmfnhbgacldaaDoorAmS
namespace Go.Proofs.YtdbmfnhbgacldaaDoor.Am
set_option autoImplicit false
set_option linter.unusedVariables false
set_option linter.unusedSimpArgs false

/-- versions raised, row by row -/
def V.up (d : Nat → Nat) : V → V
  | .ref id ver off len => .ref id (ver + d id) off len
  | .ptr id ver e j => .ptr id (ver + d id) e j
  | .fn g a b => .fn g (upAll d a) (upAll d b)
  | .agg cs => .agg (upAll d cs)
  | .tup cs => .tup (upAll d cs)
  | v => v
where upAll (d : Nat → Nat) : List V → List V
  | [] => []
  | v :: vs => V.up d v :: upAll d vs
theorem upAll_get (d : Nat → Nat) : ∀ (vs : List V) (j : Nat), (V.up.upAll d vs)[j]? = (vs[j]?).map (V.up d)
  | [], j => by simp [V.up.upAll]
  | v :: vs, j => by
    cases j with
    | zero => simp [V.up.upAll]
    | succ j => simpa [V.up.upAll] using upAll_get d vs j
theorem upAll_len (d : Nat → Nat) : ∀ (vs : List V), (V.up.upAll d vs).length = vs.length
  | [] => rfl
  | v :: vs => by simp [V.up.upAll, upAll_len d vs]
@[simp] theorem upAll_map_i (d : Nat → Nat) (xs : List I) : V.up.upAll d (xs.map .i) = xs.map .i := by
  induction xs with
  | nil => rfl
  | cons x xs ih => simp [V.up.upAll, V.up, ih]
def Ob.up (d : Nat → Nat) (id : Nat) : Ob → Ob
  | .dead => .dead
  | .row ver sz ro es => .row (ver + d id) sz ro (es.map (V.up.upAll d))
@[simp] theorem map_up_lift (d : Nat → Nat) (es : List (List I)) : (lift es).map (V.up.upAll d) = lift es := by
  simp only [lift, List.map_map]
  apply List.map_congr_left
  intro x _
  simp
def upSt (d : Nat → Nat) (k : Nat) : List Ob → List Ob
  | [] => []
  | o :: os => o.up d k :: upSt d (k + 1) os
theorem upSt_get (d : Nat → Nat) : ∀ (st : List Ob) (k i : Nat), (upSt d k st)[i]? = (st[i]?).map (Ob.up d (k + i))
  | [], k, i => by simp [upSt]
  | o :: os, k, i => by
    cases i with
    | zero => simp [upSt]
    | succ i => simp only [upSt, List.getElem?_cons_succ]; rw [upSt_get d os, show k + 1 + i = k + (i + 1) by omega]
@[simp] theorem upSt_len (d : Nat → Nat) : ∀ (st : List Ob) (k : Nat), (upSt d k st).length = st.length
  | [], k => rfl
  | o :: os, k => by simp [upSt, upSt_len d os]
theorem up_row {d : Nat → Nat} {st : List Ob} {id ver sz : Nat} {ro : Bool} {es : List (List V)} (h : st[id]? = some (.row ver sz ro es)) : (upSt d 0 st)[id]? = some (.row (ver + d id) sz ro (es.map (V.up.upAll d))) := by
  rw [upSt_get, h]; simp [Ob.up]
theorem of_up_row {d : Nat → Nat} {st : List Ob} {id ver sz : Nat} {ro : Bool} {es : List (List V)} (h : (upSt d 0 st)[id]? = some (.row ver sz ro es)) : ∃ ver0 es0, st[id]? = some (.row ver0 sz ro es0) ∧ ver = ver0 + d id ∧ es = es0.map (V.up.upAll d) := by
  rw [upSt_get, Option.map_eq_some_iff] at h
  obtain ⟨o, ho, h⟩ := h
  cases o with
  | dead => simp [Ob.up] at h
  | row ver0 sz0 ro0 es0 =>
    simp only [Ob.up, Ob.row.injEq, Nat.zero_add] at h
    obtain ⟨rfl, rfl, rfl, rfl⟩ := h
    exact ⟨_, _, ho, rfl, rfl⟩

section
variable {d : Nat → Nat} {μ : Mu} {st : List Ob} {Q : Nat → Prop} {D : Nat → Prop} {w : World}
theorem up_live {g : Nat} : live μ (upSt d 0 st) g ↔ live μ st g := by
  constructor
  · rintro ⟨id, ver, sz, es, m, h1, h2⟩
    obtain ⟨_, _, h3, _⟩ := of_up_row h1
    exact ⟨id, _, sz, _, m, h3, h2⟩
  · rintro ⟨id, ver, sz, es, m, h1, h2⟩
    exact ⟨id, _, sz, _, m, up_row h1, h2⟩
theorem up_qd {g : Nat} : qd D μ (upSt d 0 st) w g ↔ qd D μ st w g := by
  unfold qd prot
  rw [up_live]
theorem up_ref {id ver off len : Nat} {y : Value} : refOK μ (upSt d 0 st) id (ver + d id) off len y ↔ refOK μ st id ver off len y := by
  constructor
  · rintro ⟨h1, h2⟩
    refine ⟨by simpa using h1, fun v' s r e h => ?_⟩
    obtain ⟨a, b⟩ := h2 _ _ _ _ (up_row h)
    refine ⟨by omega, fun hv => ?_⟩
    have := b (by omega)
    simpa using this
  · rintro ⟨h1, h2⟩
    refine ⟨by simpa using h1, fun v' s r e h => ?_⟩
    obtain ⟨v0, e0, h3, rfl, rfl⟩ := of_up_row h
    obtain ⟨a, b⟩ := h2 _ _ _ _ h3
    refine ⟨by omega, fun hv => ?_⟩
    have := b (by omega)
    simpa using this
theorem up_ptr {id ver e j : Nat} {y : Value} : ptrOK μ (upSt d 0 st) id (ver + d id) e j y ↔ ptrOK μ st id ver e j y := by
  constructor
  · rintro ⟨h1, h2⟩
    refine ⟨by simpa using h1, fun v' s r e h => ?_⟩
    obtain ⟨a, b⟩ := h2 _ _ _ _ (up_row h)
    refine ⟨by omega, fun hv => ?_⟩
    have := b (by omega)
    simpa using this
  · rintro ⟨h1, h2⟩
    refine ⟨by simpa using h1, fun v' s r e h => ?_⟩
    obtain ⟨v0, e0, h3, rfl, rfl⟩ := of_up_row h
    obtain ⟨a, b⟩ := h2 _ _ _ _ h3
    refine ⟨by omega, fun hv => ?_⟩
    have := b (by omega)
    simpa using this
theorem vrel.up {v : V} {y : Value} (h : vrel μ st Q w v y) : vrel μ (upSt d 0 st) Q w (v.up d) y := by
  induction h with
  | i h => exact .i h
  | undef y => exact .undef y
  | nils => exact .nils
  | nilf => exact .nilf
  | ref h => exact .ref (up_ref.2 h)
  | ptr h => exact .ptr (up_ptr.2 h)
  | iptr cs j g off xs hQ hw hr => exact .iptr cs j g off xs hQ hw hr
  | fn fn fs cs fs' cs' h1 h2 h3 h4 i3 i4 =>
    refine .fn fn _ _ fs' cs' (by rw [upAll_len, h1]) (by rw [upAll_len, h2]) (fun j v hj => ?_) (fun j v hj => ?_)
    · rw [upAll_get, Option.map_eq_some_iff] at hj
      obtain ⟨u, hu, rfl⟩ := hj
      exact i3 j u hu
    · rw [upAll_get, Option.map_eq_some_iff] at hj
      obtain ⟨u, hu, rfl⟩ := hj
      exact i4 j u hu
  | agg cs cs' h1 h2 ih =>
    refine .agg _ cs' (by rw [upAll_len, h1]) (fun j v hj => ?_)
    rw [upAll_get, Option.map_eq_some_iff] at hj
    obtain ⟨u, hu, rfl⟩ := hj
    exact ih j u hu
  | tup cs cs' h1 h2 ih =>
    refine .tup _ cs' (by rw [upAll_len, h1]) (fun j v hj => ?_)
    rw [upAll_get, Option.map_eq_some_iff] at hj
    obtain ⟨u, hu, rfl⟩ := hj
    exact ih j u hu
theorem vrel.down : ∀ {y : Value} {u : V}, vrel μ (upSt d 0 st) Q w u y → ∀ v : V, u = v.up d → vrel μ st Q w v y := by
  intro y u h
  induction h with
  | i h => intro v hv; cases v <;> simp [V.up] at hv; subst hv; exact .i h
  | undef y => intro v hv; cases v <;> simp [V.up] at hv; exact .undef y
  | nils => intro v hv; cases v <;> simp [V.up] at hv; exact .nils
  | nilf => intro v hv; cases v <;> simp [V.up] at hv; exact .nilf
  | ref h =>
    intro v hv
    cases v <;> simp [V.up] at hv
    obtain ⟨rfl, rfl, rfl, rfl⟩ := hv
    exact .ref (up_ref.1 h)
  | ptr h =>
    intro v hv
    cases v <;> simp [V.up] at hv
    obtain ⟨rfl, rfl, rfl, rfl⟩ := hv
    exact .ptr (up_ptr.1 h)
  | iptr cs j g off xs hQ hw hr =>
    intro v hv
    cases v <;> simp [V.up] at hv
    obtain ⟨rfl, rfl⟩ := hv
    exact .iptr _ _ g off xs hQ hw hr
  | fn fn fs cs fs' cs' h1 h2 h3 h4 i3 i4 =>
    intro v hv
    cases v <;> simp [V.up] at hv
    rename_i g a b
    obtain ⟨rfl, rfl, rfl⟩ := hv
    exact .fn _ _ _ fs' cs' (by rw [← upAll_len d, h1]) (by rw [← upAll_len d, h2]) (fun j u hj => i3 j _ (by rw [upAll_get, hj]; rfl) u rfl) (fun j u hj => i4 j _ (by rw [upAll_get, hj]; rfl) u rfl)
  | agg cs cs' h1 h2 ih =>
    intro v hv
    cases v <;> simp [V.up] at hv
    subst hv
    exact .agg _ cs' (by rw [← upAll_len d, h1]) (fun j u hj => ih j _ (by rw [upAll_get, hj]; rfl) u rfl)
  | tup cs cs' h1 h2 ih =>
    intro v hv
    cases v <;> simp [V.up] at hv
    subst hv
    exact .tup _ cs' (by rw [← upAll_len d, h1]) (fun j u hj => ih j _ (by rw [upAll_get, hj]; rfl) u rfl)
theorem same_qd {Q Q2 : Nat → Prop} {μ : Mu} {st : List Ob} {v : V} {y : Value} (hq : ∀ g, Q g → Q2 g) (h : vrel μ st Q w v y) : vrel μ st Q2 w v y := h.keep (Ev.refl (Nat.le_refl _)) fun g hg => ⟨hq g hg, rfl⟩
theorem srel.up (h : srel D μ st w) : srel D μ (upSt d 0 st) w := by
  refine ⟨h.dom, fun id ver sz ro es hi => ?_, fun i j v1 s1 e1 v2 s2 e2 g m1 m2 h1 h2 => ?_⟩
  · obtain ⟨v0, e0, h3, rfl, rfl⟩ := of_up_row hi
    rcases h.row id v0 sz ro e0 h3 with ⟨b1, b2⟩ | ⟨g, m, cur, T, lo, hi', b1, b2, b3, b4, b5, b6, b7, b8, b9⟩
    · exact .inl ⟨by simp [b1], b2⟩
    · refine .inr ⟨g, m, cur, T, lo, hi', b1, b2, b3, by simpa using b4, fun i cs hcs => ?_, fun i cs j v hcs hj => ?_, fun hr => up_qd.2 (b7 hr), b8, b9⟩
      · simp only [List.getElem?_map, Option.map_eq_some_iff] at hcs
        obtain ⟨c0, hc, rfl⟩ := hcs
        rw [upAll_len]; exact b5 i c0 hc
      · simp only [List.getElem?_map, Option.map_eq_some_iff] at hcs
        obtain ⟨c0, hc, rfl⟩ := hcs
        rw [upAll_get, Option.map_eq_some_iff] at hj
        obtain ⟨u, hu, rfl⟩ := hj
        exact same_qd (fun g hg => up_qd.2 hg) (b6 i c0 j u hc hu).up
  · obtain ⟨_, _, h3, _⟩ := of_up_row h1
    obtain ⟨_, _, h4, _⟩ := of_up_row h2
    exact h.inj i j _ _ _ _ _ _ g m1 m2 h3 h4
theorem srel.down (h : srel D μ (upSt d 0 st) w) : srel D μ st w := by
  refine ⟨h.dom, fun id ver sz ro es hi => ?_, fun i j v1 s1 e1 v2 s2 e2 g m1 m2 h1 h2 => h.inj i j _ _ _ _ _ _ g m1 m2 (up_row h1) (up_row h2)⟩
  rcases h.row id _ sz ro _ (up_row hi) with ⟨b1, b2⟩ | ⟨g, m, cur, T, lo, hi', b1, b2, b3, b4, b5, b6, b7, b8, b9⟩
  · exact .inl ⟨by simpa using b1, b2⟩
  · refine .inr ⟨g, m, cur, T, lo, hi', b1, b2, b3, by simpa using b4, fun i cs hcs => ?_, fun i cs j v hcs hj => ?_, fun hr => up_qd.1 (b7 hr), b8, b9⟩
    · have := b5 i (V.up.upAll d cs) (by simp [hcs])
      rwa [upAll_len] at this
    · have := b6 i (V.up.upAll d cs) j (v.up d) (by simp [hcs]) (by rw [upAll_get, hj]; rfl)
      exact same_qd (fun g hg => up_qd.1 hg) (this.down v rfl)
theorem Fr.up {μ' : Mu} {st' : List Ob} {w' : World} {d' : Nat → Nat} (h : Fr μ st w μ' st' w') : Fr μ (upSt d 0 st) w μ' (upSt d' 0 st') w' :=
  ⟨h.os, h.tape, h.output, h.size, fun g hg => by
    obtain ⟨e1, e2⟩ := h.prot g ⟨hg.1, fun hl => hg.2 (up_live.2 hl)⟩
    exact ⟨e1, fun hl => e2 (up_live.1 hl)⟩⟩
theorem Ev.up {n : Nat} {μ' : Mu} {st' : List Ob} (h : Ev n μ st μ' st') : Ev n μ (upSt d 0 st) μ' (upSt d 0 st') := by
  refine ⟨by simpa using h.1, fun id hid ver sz ro es hi => ?_⟩
  obtain ⟨v0, e0, h3, rfl, rfl⟩ := of_up_row hi
  obtain ⟨ver0, ro0, es0, c1, c2, c3, c4⟩ := h.2 id hid _ _ _ _ h3
  exact ⟨_, _, _, up_row c1, by omega, c3, fun hv => by simpa using c4 (by omega)⟩

variable {P : Program} {G : Gl}
theorem GOk.of_live {μ : Mu} {st st' : List Ob} (hl : ∀ g, live μ st' g → live μ st g) (h : GOk D G μ st w) : GOk D G μ st' w := by
  have hq : ∀ g, qd D μ st w g → qd D μ st' w g := fun g hg => ⟨⟨hg.1.1, fun h => hg.1.2 (hl g h)⟩, hg.2⟩
  intro g cs hg
  obtain ⟨h1, xs, h2, h3⟩ := h g cs hg
  exact ⟨hq g h1, xs, h2, fun j v hj => (h3 j v hj).keep fun g hg => ⟨hq g hg, rfl⟩⟩
theorem upAll_eq (d : Nat → Nat) : ∀ vs : List V, V.up.upAll d vs = vs.map (V.up d)
  | [] => rfl
  | v :: vs => by simp [V.up.upAll, upAll_eq d vs]
/-- a contract where rows bear greater versions -/
theorem CallW.vers (d : Nat → Nat) {f : FuncId} {args : List V} {st : List Ob} {K : V → List Ob → Prop} (h : CallW P G f args st K) :
    CallW P G f (args.map (V.up d)) (upSt d 0 st) (fun r st' => ∃ r0 st0, K r0 st0 ∧ r = r0.up d ∧ st' = upSt d 0 st0) := by
  refine ⟨h.enter, fun D μ w args' hg ha hs => ?_⟩
  have ha0 : vrels μ st (qd D μ st w) w args args' := by
    refine ⟨by simpa using ha.1, fun j v hj => ?_⟩
    have := ha.2 j (v.up d) (by simp [hj])
    exact same_qd (fun g hg => up_qd.1 hg) (this.down v rfl)
  refine (h.calls D μ w args' (hg.of_live fun g h => up_live.2 h) ha0 hs.down).mono fun e w' he => ?_
  obtain ⟨r, r', st', μ', rfl, hK, hv, hs', hf', he'⟩ := he
  exact ⟨_, r', _, μ', rfl, ⟨r, st', hK, rfl, rfl⟩, same_qd (fun g hg => up_qd.2 hg) hv.up, hs'.up, hf'.up, by simpa using he'.up⟩
/-- versions told smaller: of rows of the code's own -/
theorem Le.down {n : Nat} (d : Nat → Nat) (hd : ∀ id, id < n → d id = 0) {sl : List V} {st : List Ob} {s : S} (h1 : leS sl (s.sl.map (V.up d))) (h2 : st = upSt d 0 s.st) : Le n ⟨sl, st⟩ s := by
  refine (Le.slots h1).trans ?_
  subst h2
  intro D μ a w hn hr
  refine ⟨μ, ⟨hr.dfr, ⟨by simpa using hr.sl.1, fun j v hj => ?_⟩, hr.st.down⟩, ?_, ?_⟩
  · have := hr.sl.2 j (v.up d) (by simp [hj])
    exact same_qd (fun g hg => up_qd.1 hg) (this.down v rfl)
  · exact ⟨rfl, rfl, rfl, Nat.le_refl _, fun g hg => ⟨rfl, fun hl => hg.2 (up_live.2 hl)⟩⟩
  · refine ⟨by simpa using hn, fun id hid ver sz ro es hi => ⟨_, _, _, up_row hi, by rw [hd id hid]; omega, fun h => h, fun _ => ⟨by simp, rfl⟩⟩⟩
end
end Go.Proofs.YtdbmfnhbgacldaaDoor.Am
