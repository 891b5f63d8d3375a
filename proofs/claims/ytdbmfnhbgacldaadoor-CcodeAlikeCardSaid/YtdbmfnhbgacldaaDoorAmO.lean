/- The logic: what a function hands back is told as data, the store's end is forgotten. -/
import Derived.Test.YtdbmfnhbgacldaaDoorAmN
namespace Go.Proofs.YtdbmfnhbgacldaaDoor.Am
set_option autoImplicit false
set_option linter.unusedVariables false
set_option linter.unusedSimpArgs false

/-- windows of rows from number m on, told as data -/
def frz (m : Nat) (st : List Ob) (v : V) (K : V → Prop) : Prop := match v with
  | .ref id ver off len => m ≤ id ∧ match st[id]? with
    | some (.row ver' _ _ es) => ver = ver' ∧ ∃ is, es = lift is ∧ K (.i (.sl ((is.drop off).take len)))
    | _ => False
  | .nils => K (.i (.sl []))
  | v => K v
def frzs (m : Nat) (st : List Ob) : List V → (List V → Prop) → Prop
  | [], K => K []
  | v :: vs, K => frz m st v fun v => frzs m st vs fun vs => K (v :: vs)
def frzW (m : Nat) (st : List Ob) (v : V) (K : V → Prop) : Prop := match v with
  | .agg cs => frzs m st cs fun cs => K (.agg cs)
  | .tup cs => frzs2 m st cs fun cs => K (.tup cs)
  | v => frz m st v K
where frzs2 (m : Nat) (st : List Ob) : List V → (List V → Prop) → Prop
  | [], K => K []
  | .agg ds :: vs, K => frzs m st ds fun ds => frzs2 m st vs fun vs => K (.agg ds :: vs)
  | v :: vs, K => frz m st v fun v => frzs2 m st vs fun vs => K (v :: vs)

section
variable {P : Program} {G : Gl} {own : Tmp → Bool} {n : Nat} {D : Nat → Prop} {μ : Mu} {st : List Ob} {w : World}

/-- of a store whose end is forgotten: what a row there held is data now -/
theorem row_data {m : Nat} (hs : srel D μ st w) {id ver sz : Nat} {ro : Bool} {is : List (List I)} (hm : m ≤ id) (hid : st[id]? = some (.row ver sz ro (lift is))) {off len : Nat} {y : Value} (hy : refOK μ st id ver off len y) :
    irel (qd D μ (st.take m) w) w (.sl ((is.drop off).take len)) y := by
  obtain ⟨h4, h5⟩ := (hy.2 _ _ _ _ hid).2 rfl
  have hl : (lift is).length = is.length := by simp [lift]
  rw [hl] at h4 h5
  have hlen : ((is.drop off).take len).length = len := by simp; omega
  rcases h5 with ⟨a1, a2, rfl⟩ | ⟨g, k, c, a1, rfl, a3, a4, a5⟩ | ⟨a1, a2, a, c, rfl⟩
  · have : (is.drop off).take len = [] := List.eq_nil_of_length_eq_zero (by omega)
    rw [this]; exact .sl0 _ _
  · by_cases h0 : len = 0
    · have : (is.drop off).take len = [] := List.eq_nil_of_length_eq_zero (by omega)
      rw [this, h0]; exact .sl0 _ _
    · rcases hs.row id ver sz ro _ hid with ⟨hnil, _⟩ | ⟨g', k', cur, T, lo, hi, b1, b2, b3, b4, b5, b6, b7, b8, b9⟩
      · rw [hnil] at hl; simp at hl; omega
      · rw [a1] at b1
        obtain ⟨rfl, rfl⟩ := Prod.mk.inj (Option.some.inj b1)
        have hnl : ¬ live μ (st.take m) g := by
          rintro ⟨id', ver', sz', es', k'', c1, c2⟩
          have hid' : id' < m := by have := lt_of_get? c1; simp at this; omega
          rw [List.getElem?_take, if_pos hid'] at c1
          cases ro with
          | true => exact (b7 rfl).1.2 ⟨id', ver', sz', es', k'', c1, c2⟩
          | false => have := hs.inj id' id ver' sz' es' ver sz _ g k'' k c1 hid c2 a1; omega
        have hq : qd D μ (st.take m) w g := ⟨⟨row_lt b2, hnl⟩, b8⟩
        have hsub : ∀ k, qd D μ st w k → qd D μ (st.take m) w k ∧ w.heap[k]? = w.heap[k]? := by
          intro k hk
          refine ⟨⟨⟨hk.1.1, ?_⟩, hk.2⟩, rfl⟩
          rintro ⟨id', ver', sz', es', k'', c1, c2⟩
          have hid' : id' < m := by have := lt_of_get? c1; simp at this; omega
          rw [List.getElem?_take, if_pos hid'] at c1
          exact hk.1.2 ⟨id', ver', sz', es', k'', c1, c2⟩
        have hget : ∀ (i : Nat) (cs : List I), ((is.drop off).take len)[i]? = some cs → i < len ∧ (lift is)[off + i]? = some (cs.map .i) := by
          intro i cs hi
          have hil := lt_of_get? hi
          rw [hlen] at hil
          rw [List.getElem?_take, if_pos hil, List.getElem?_drop] at hi
          exact ⟨hil, by simp [lift, hi]⟩
        have := irel.sl (Q := qd D μ (st.take m) w) (w := w) ((is.drop off).take len) sz g (off * sz) c (fun i j => cur.getD ((off + i) * sz + j) Go.undef) hq (by omega)
          (fun i cs hi => by have := b5 _ _ (hget i cs hi).2; simpa using this)
          (fun i cs j v hi hj => by
            obtain ⟨h1, h2⟩ := hget i cs hi
            have hsz := b5 _ _ h2
            have hjl := lt_of_get? hj
            simp only [List.length_map] at hsz
            have hle : (off + i + 1) * sz ≤ (lift is).length * sz := Nat.mul_le_mul_right _ (by omega)
            rw [Nat.add_mul, Nat.one_mul] at hle
            rw [cell_of_row w g _ cur T _ b2]
            rw [show off * sz + (i * sz + j) = (off + i) * sz + j by rw [Nat.add_mul]; omega, getD_of_lt (by omega)])
          (fun i cs j v hi hj => by
            obtain ⟨h1, h2⟩ := hget i cs hi
            have := b6 _ _ j (.i v) h2 (by simp [hj])
            cases this with | i h => exact h.keep hsub)
        rw [hlen] at this
        exact this
  · have : (is.drop off).take len = [] := List.eq_nil_of_length_eq_zero (by omega)
    rw [this]; exact .sl0 _ _

/-- values behind a freeze -/
def VR2 (D : Nat → Prop) (μ : Mu) (st : List Ob) (w : World) (m : Nat) (v : V) (y : Value) : Prop := v.cl m = true → vrel μ (st.take m) (qd D μ (st.take m) w) w v y

theorem keep2 (hs : srel D μ st w) {m : Nat} (hm : m ≤ st.length) {v : V} {y : Value} (h : vrel μ st (qd D μ st w) w v y) : VR2 D μ st w m v y := by
  intro hc
  have hsub : ∀ k, qd D μ st w k → qd D μ (st.take m) w k ∧ w.heap[k]? = w.heap[k]? := by
    intro k hk
    refine ⟨⟨⟨hk.1.1, ?_⟩, hk.2⟩, rfl⟩
    rintro ⟨id', ver', sz', es', k'', c1, c2⟩
    have hid' : id' < m := by have := lt_of_get? c1; simp at this; omega
    rw [List.getElem?_take, if_pos hid'] at c1
    exact hk.1.2 ⟨id', ver', sz', es', k'', c1, c2⟩
  have hst : st.take m ++ st.drop m = st := List.take_append_drop m st
  have hml : (st.take m).length = m := by simp; omega
  have h1 : vrel μ (st.take m ++ st.drop m) (qd D μ st w) w v y := by rw [hst]; exact h
  have h2 := h1.short (D := D) (by rw [hml]; exact hc)
  exact vrel.keep (Ev.refl (Nat.le_refl _)) hsub h2

theorem frz_ok (hs : srel D μ st w) {m : Nat} (hm : m ≤ st.length) {v : V} {y : Value} (hv : vrel μ st (qd D μ st w) w v y) {K : V → Prop} (h : frz m st v K) : ∃ v', K v' ∧ VR2 D μ st w m v' y := by
  unfold frz at h
  split at h
  · rename_i id ver off len
    obtain ⟨h1, h2⟩ := h
    split at h2
    · rename_i ver' sz ro es hid
      obtain ⟨rfl, is, rfl, hK⟩ := h2
      cases hv with | ref hv =>
      exact ⟨_, hK, fun _ => .i (row_data hs h1 hid hv)⟩
    · exact h2.elim
  · cases hv
    exact ⟨_, h, fun _ => .i (.sl0 _ _)⟩
  · exact ⟨_, h, keep2 hs hm hv⟩

theorem frzs_ok (hs : srel D μ st w) {m : Nat} (hm : m ≤ st.length) : ∀ {vs : List V} {ys : List Value} {K : List V → Prop}, ys.length = vs.length → (∀ (j : Nat) (v : V), vs[j]? = some v → vrel μ st (qd D μ st w) w v (ys.getD j Go.undef)) → frzs m st vs K →
    ∃ vs', K vs' ∧ ys.length = vs'.length ∧ ∀ (j : Nat) (v : V), vs'[j]? = some v → VR2 D μ st w m v (ys.getD j Go.undef)
  | [], ys, K, hl, _, h => ⟨[], h, hl, by simp⟩
  | v :: vs, [], K, hl, _, h => by simp at hl
  | v :: vs, y :: ys, K, hl, hv, h => by
    obtain ⟨v', h1, h2⟩ := frz_ok hs hm (hv 0 v rfl) h
    obtain ⟨vs', h3, h4, h5⟩ := frzs_ok hs hm (ys := ys) (by simpa using hl) (fun j u hj => hv (j + 1) u (by simpa using hj)) h1
    refine ⟨v' :: vs', h3, by simpa using h4, fun j u hj => ?_⟩
    cases j with
    | zero => simp only [List.getElem?_cons_zero, Option.some.injEq] at hj; subst hj; exact h2
    | succ j => exact h5 j u (by simpa using hj)

theorem agg2 {m : Nat} {cs' : List V} {ys : Array Value} (hl : ys.size = cs'.length) (h : ∀ (j : Nat) (v : V), cs'[j]? = some v → VR2 D μ st w m v (ys.getD j Go.undef)) : VR2 D μ st w m (.agg cs') (.agg ys) := by
  intro hc
  simp only [V.cl] at hc
  exact .agg _ _ hl (fun j v hj => h j v hj (clAll_get hc j v hj))

theorem frzs2_ok (hs : srel D μ st w) {m : Nat} (hm : m ≤ st.length) : ∀ {vs : List V} {ys : List Value} {K : List V → Prop}, ys.length = vs.length → (∀ (j : Nat) (v : V), vs[j]? = some v → vrel μ st (qd D μ st w) w v (ys.getD j Go.undef)) → frzW.frzs2 m st vs K →
    ∃ vs', K vs' ∧ ys.length = vs'.length ∧ ∀ (j : Nat) (v : V), vs'[j]? = some v → VR2 D μ st w m v (ys.getD j Go.undef)
  | [], ys, K, hl, _, h => ⟨[], h, hl, by simp⟩
  | v :: vs, [], K, hl, _, h => by simp at hl
  | v :: vs, y :: ys, K, hl, hv, h => by
    have hv0 : vrel μ st (qd D μ st w) w v y := hv 0 v rfl
    have key : ∀ v', VR2 D μ st w m v' y → frzW.frzs2 m st vs (fun vs => K (v' :: vs)) → ∃ vs', K vs' ∧ (y :: ys).length = vs'.length ∧ ∀ (j : Nat) (v : V), vs'[j]? = some v → VR2 D μ st w m v ((y :: ys).getD j Go.undef) := by
      intro v' h2 h1
      obtain ⟨vs', h3, h4, h5⟩ := frzs2_ok hs hm (ys := ys) (by simpa using hl) (fun j u hj => hv (j + 1) u (by simpa using hj)) h1
      refine ⟨v' :: vs', h3, by simpa using h4, fun j u hj => ?_⟩
      cases j with
      | zero => simp only [List.getElem?_cons_zero, Option.some.injEq] at hj; subst hj; exact h2
      | succ j => exact h5 j u (by simpa using hj)
    unfold frzW.frzs2 at h
    split at h
    · rename_i heq; simp at heq
    · rename_i ds vs0 heq
      simp only [List.cons.injEq] at heq
      obtain ⟨rfl, rfl⟩ := heq
      cases hv0 with
      | agg _ cs' h1 h2 =>
      obtain ⟨ds', g1, g2, g3⟩ := frzs_ok hs hm (ys := cs'.toList) (by simpa using h1) (fun j v hj => by have := h2 j v hj; rw [Array.getD_eq_getD_getElem?, ← Array.getElem?_toList] at this; exact this) h
      exact key _ (agg2 (by simpa using g2) (fun j v hj => by have := g3 j v hj; rw [Array.getD_eq_getD_getElem?, ← Array.getElem?_toList]; exact this)) g1
    · rename_i v0 vs0 hne heq
      simp only [List.cons.injEq] at heq
      obtain ⟨rfl, rfl⟩ := heq
      obtain ⟨v', h1, h2⟩ := frz_ok hs hm hv0 h
      exact key v' h2 h1

theorem frzW_ok (hs : srel D μ st w) {m : Nat} (hm : m ≤ st.length) {v : V} {y : Value} (hv : vrel μ st (qd D μ st w) w v y) {K : V → Prop} (h : frzW m st v K) : ∃ v', K v' ∧ VR2 D μ st w m v' y := by
  unfold frzW at h
  split at h
  · cases hv with | agg _ cs' h1 h2 =>
    obtain ⟨ds', g1, g2, g3⟩ := frzs_ok hs hm (ys := cs'.toList) (by simpa using h1) (fun j v hj => by have := h2 j v hj; rw [Array.getD_eq_getD_getElem?, ← Array.getElem?_toList] at this; exact this) h
    exact ⟨_, g1, agg2 (by simpa using g2) (fun j v hj => by have := g3 j v hj; rw [Array.getD_eq_getD_getElem?, ← Array.getElem?_toList]; exact this)⟩
  · cases hv with | tup _ cs' h1 h2 =>
    obtain ⟨ds', g1, g2, g3⟩ := frzs2_ok hs hm (ys := cs'.toList) (by simpa using h1) (fun j v hj => by have := h2 j v hj; rw [Array.getD_eq_getD_getElem?, ← Array.getElem?_toList] at this; exact this) h
    refine ⟨_, g1, fun hc => ?_⟩
    simp only [V.cl] at hc
    exact .tup _ _ (by simpa using g2) (fun j v hj => by have := g3 j v hj (clAll_get hc j v hj); rw [Array.getD_eq_getD_getElem?, ← Array.getElem?_toList]; exact this)
  · exact frz_ok hs hm hv h

/-- what a body must come to, if its result is told as data, and the store's first m rows are kept -/
def retF (P : Program) (fn : Func) (m : Nat) (K : V → List Ob → Prop) : Exit → S → Prop :=
  retQ P fn fun r st => frzW m st r fun r => m ≤ st.length ∧ r.cl m = true ∧ (∀ o ∈ st.take m, o.cl m) ∧ K r (st.take m)

theorem CallW.mono {f : FuncId} {args : List V} {K K' : V → List Ob → Prop} (h : CallW P G f args st K) (hk : ∀ r st', K r st' → K' r st') : CallW P G f args st K' :=
  ⟨h.enter, fun D μ w args' hg ha hs => (h.calls D μ w args' hg ha hs).mono fun e w' ⟨r, r', st', μ', a, b, c⟩ => ⟨r, r', st', μ', a, hk _ _ b, c⟩⟩

theorem call_of_bodyF {f : FuncId} {fn : Func} {c : Code} {args : List V} {K : V → List Ob → Prop} (m : Nat) (hm : st.length ≤ m) (hf : P.funcs[f]? = some fn) (hb : fn.body = some c) (hcall : ∀ args' w0, (callFunc f args').run P w0 = .ok (.enter f args') w0)
    (h : W P G st.length c (retF P fn m K) ⟨args ++ List.replicate (fn.ntmps - args.length) .undef, st⟩) : CallW P G f args st K := by
  have h1 := call_of_body hf hb hcall h
  refine ⟨hcall, fun D μ w args' hg ha hs => (h1.calls D μ w args' hg ha hs).mono fun e w' he => ?_⟩
  obtain ⟨r, r', st', μ', rfl, hK, hv, hs', hf', he'⟩ := he
  have hml : m ≤ st'.length ∨ st'.length < m := by omega
  rcases hml with hml | hml
  · obtain ⟨v', ⟨k1, k2, k3, k4⟩, hv'⟩ := frzW_ok hs' hml hv hK
    have hst : st'.take m ++ st'.drop m = st' := List.take_append_drop m st'
    have hlen : (st'.take m).length = m := by simp; omega
    have hs2 : srel D μ' (st'.take m ++ st'.drop m) w' := by rw [hst]; exact hs'
    obtain ⟨r1, r2, r3, _⟩ := short_ok hs2 (by rw [hlen]; exact k3) (n := st.length) (by rw [hlen]; exact hm)
    rw [hst] at r2 r3
    exact ⟨v', r', st'.take m, μ', rfl, k4, hv' k2, r1, hf'.trans r2, he'.trans r3⟩
  · -- the store is shorter: then nothing is told
    exfalso
    have : ∀ v K, frzW m st' v K → (∀ r, K r → m ≤ st'.length) → False := by
      intro v K hz hk
      have e1 : ∀ v K, frz m st' v K → ∃ r, K r := by
        intro v K h
        unfold frz at h
        split at h
        · obtain ⟨_, h2⟩ := h
          split at h2
          · obtain ⟨_, is, _, h3⟩ := h2; exact ⟨_, h3⟩
          · exact h2.elim
        · exact ⟨_, h⟩
        · exact ⟨_, h⟩
      have e2 : ∀ vs K, frzs m st' vs K → ∃ r, K r := by
        intro vs
        induction vs with
        | nil => intro K h; exact ⟨_, h⟩
        | cons v vs ih => intro K h; obtain ⟨v', h1⟩ := e1 _ _ h; obtain ⟨vs', h2⟩ := ih _ h1; exact ⟨_, h2⟩
      have e3 : ∀ vs K, frzW.frzs2 m st' vs K → ∃ r, K r := by
        intro vs
        induction vs with
        | nil => intro K h; exact ⟨_, h⟩
        | cons v vs ih =>
          intro K h
          unfold frzW.frzs2 at h
          split at h
          · rename_i heq; simp at heq
          · rename_i heq
            simp only [List.cons.injEq] at heq
            obtain ⟨rfl, rfl⟩ := heq
            obtain ⟨v', h1⟩ := e2 _ _ h; obtain ⟨vs', h2⟩ := ih _ h1; exact ⟨_, h2⟩
          · rename_i heq
            simp only [List.cons.injEq] at heq
            obtain ⟨rfl, rfl⟩ := heq
            obtain ⟨v', h1⟩ := e1 _ _ h; obtain ⟨vs', h2⟩ := ih _ h1; exact ⟨_, h2⟩
      unfold frzW at hz
      split at hz
      · obtain ⟨_, h⟩ := e2 _ _ hz; have := hk _ h; omega
      · obtain ⟨_, h⟩ := e3 _ _ hz; have := hk _ h; omega
      · obtain ⟨_, h⟩ := e1 _ _ hz; have := hk _ h; omega
    exact this r _ hK fun r h => h.1
end
end Go.Proofs.YtdbmfnhbgacldaaDoor.Am
