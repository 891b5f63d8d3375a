/- The logic: rows forgotten; a contract's end that says less. -/
import Derived.Test.YtdbmfnhbgacldaaDoorAmRf
import Derived.Test.YtdbmfnhbgacldaaDoorAmRs
namespace Go.Proofs.YtdbmfnhbgacldaaDoor.Am
set_option autoImplicit false
set_option linter.unusedVariables false
set_option linter.unusedSimpArgs false
theorem kill_get {st : List Ob} {id i : Nat} {ver sz : Nat} {ro : Bool} {es : List (List V)} (h : (st.set id .dead)[i]? = some (.row ver sz ro es)) : i ≠ id ∧ st[i]? = some (.row ver sz ro es) := by
  by_cases hi : id = i
  · subst hi
    by_cases hl : id < st.length
    · rw [getElem?_set_eq' hl] at h; cases h
    · rw [List.getElem?_eq_none (by simpa using hl)] at h; cases h
  · rw [getElem?_set_ne' hi] at h
    exact ⟨fun e => hi e.symm, h⟩
theorem kill_live {μ : Mu} {st : List Ob} {id g : Nat} (h : live μ (st.set id .dead) g) : live μ st g := by
  obtain ⟨i, ver, sz, es, m, h1, h2⟩ := h
  exact ⟨i, ver, sz, es, m, (kill_get h1).2, h2⟩
/-- a row is forgotten -/
theorem Le.kill {n : Nat} (id : Nat) {sl : List V} {st : List Ob} : Le n ⟨sl, st⟩ ⟨sl, st.set id .dead⟩ := by
  intro D μ a w hn hr
  have hev : ∀ k, k ≤ st.length → Ev k μ st μ (st.set id .dead) := fun k hk => ⟨by simpa using hk, fun i hi ver sz ro es h => ⟨ver, ro, es, (kill_get h).2, Nat.le_refl _, fun h => h, fun _ => ⟨rfl, rfl⟩⟩⟩
  have hq : ∀ g, qd D μ st w g → qd D μ (st.set id .dead) w g ∧ w.heap[g]? = w.heap[g]? := fun g h => ⟨⟨⟨h.1.1, fun hl => h.1.2 (kill_live hl)⟩, h.2⟩, rfl⟩
  have hk : ∀ {v : V} {y : Value}, vrel μ st (qd D μ st w) w v y → vrel μ (st.set id .dead) (qd D μ (st.set id .dead) w) w v y := fun h => h.keep (hev _ (Nat.le_refl _)) hq
  refine ⟨μ, ⟨hr.dfr, ⟨hr.sl.1, fun j v hj => hk (hr.sl.2 j v hj)⟩, ⟨hr.st.dom, fun i ver sz ro es h => ?_, fun i j v1 s1 e1 v2 s2 e2 g m1 m2 h1 h2 => hr.st.inj i j v1 s1 e1 v2 s2 e2 g m1 m2 (kill_get h1).2 (kill_get h2).2⟩⟩, ⟨rfl, rfl, rfl, Nat.le_refl _, fun g h => ⟨rfl, fun hl => h.2 (kill_live hl)⟩⟩, hev n hn⟩
  rcases hr.st.row i ver sz ro es (kill_get h).2 with h1 | ⟨g, m, cur, T, lo, hi, a1, a2, a3, a4, a5, a6, a7, a8⟩
  · exact .inl h1
  · exact .inr ⟨g, m, cur, T, lo, hi, a1, a2, a3, a4, a5, fun i cs j v hi hj => hk (a6 i cs j v hi hj), fun hro => (hq g (a7 hro)).1, a8⟩
/-- room for a row -/
theorem Le.room {n : Nat} (sz : Nat) {sl : List V} {st : List Ob} : Le n ⟨sl, st⟩ ⟨sl, st ++ [.row 1 sz false []]⟩ := by
  intro D μ a w hn hr
  obtain ⟨r1, r2, r3, r4⟩ := new_row 1 hr.st (Grow.refl w) (x := none) (sz' := sz) (es' := []) (.inl ⟨rfl, rfl⟩)
  exact ⟨_, ⟨hr.dfr, ⟨hr.sl.1, fun j v hj => r4 _ _ (hr.sl.2 j v hj)⟩, r1⟩, r2, r3.mono hn⟩
/-- the last row takes an empty one's place -/
theorem Le.move {n : Nat} (d ver v0 sz len : Nat) (is : List (List I)) {st : List Ob} (hn : n ≤ st.length) (hd : st[d]? = some (.row v0 sz false [])) (hv : v0 < ver) (hc : ∀ o ∈ st, o.cl st.length) :
    Le n ⟨[.ref st.length ver 0 len], st ++ [.row ver sz false (lift is)]⟩ ⟨[.ref d ver 0 len], st.set d (.row ver sz false (lift is))⟩ := by
  intro D μ a w _ hr
  have hdl := lt_of_get? hd
  obtain ⟨st', hst'⟩ : ∃ st', st' = st.set d (.row ver sz false (lift is)) := ⟨_, rfl⟩
  obtain ⟨μ', hμ'⟩ : ∃ μ' : Mu, μ' = fun j => if j = d then μ st.length else μ j := ⟨_, rfl⟩
  rw [← hst']
  have gd : st'[d]? = some (.row ver sz false (lift is)) := by rw [hst']; exact getElem?_set_eq' hdl
  have gn : ∀ j, j ≠ d → st'[j]? = st[j]? := fun j hj => by rw [hst']; exact getElem?_set_ne' (fun e => hj e.symm)
  have md : μ' d = μ st.length := by rw [hμ']; simp
  have mn : ∀ j, j ≠ d → μ' j = μ j := fun j hj => by rw [hμ']; simp [hj]
  have old : ∀ j o, st[j]? = some o → (st ++ [.row ver sz false (lift is)])[j]? = some o := fun j o h => get_grow h
  have new : (st ++ [.row ver sz false (lift is)])[st.length]? = some (.row ver sz false (lift is)) := new_get _ _
  have hlive : ∀ g, live μ' st' g → live μ (st ++ [.row ver sz false (lift is)]) g := by
    rintro g ⟨j, v, s, es, m, h1, h2⟩
    by_cases hj : j = d
    · subst hj
      rw [gd] at h1; cases h1
      exact ⟨_, _, _, _, m, new, by rw [← md]; exact h2⟩
    · exact ⟨j, v, s, es, m, old j _ (by rw [← gn j hj]; exact h1), by rw [← mn j hj]; exact h2⟩
  have hq : ∀ g, qd D μ (st ++ [.row ver sz false (lift is)]) w g → qd D μ' st' w g ∧ w.heap[g]? = w.heap[g]? := fun g h => ⟨⟨⟨h.1.1, fun hl => h.1.2 (hlive g hl)⟩, h.2⟩, rfl⟩
  have hlen : st'.length = st.length := by rw [hst']; simp
  have hev : ∀ k, k ≤ st.length → Ev k μ st μ' st' := fun k hk => ⟨by rw [hlen]; exact hk, fun j hj v s ro es h => by
    by_cases hjd : j = d
    · subst hjd
      rw [gd] at h; cases h
      exact ⟨v0, false, [], hd, Nat.le_of_lt hv, fun h => h, fun h => absurd h (by omega)⟩
    · rw [gn j hjd] at h
      exact ⟨v, ro, es, h, Nat.le_refl _, fun h => h, fun _ => ⟨rfl, mn j hjd⟩⟩⟩
  have hk : ∀ {v : V} {y : Value}, v.cl st.length = true → vrel μ (st ++ [.row ver sz false (lift is)]) (qd D μ (st ++ [.row ver sz false (lift is)]) w) w v y → vrel μ' st' (qd D μ' st' w) w v y := fun hcl h => (h.short (D := D) hcl).keep (hev _ (Nat.le_refl _)) hq
  refine ⟨μ', ⟨hr.dfr, ⟨hr.sl.1, fun j v hj => ?_⟩, ⟨hr.st.dom, fun j v s ro es h => ?_, fun i j v1 s1 e1 v2 s2 e2 g m1 m2 h1 h2 g1 g2 => ?_⟩⟩, ⟨rfl, rfl, rfl, Nat.le_refl _, fun g h => ⟨rfl, fun hl => h.2 (hlive g hl)⟩⟩, ?_⟩
  · cases j with
    | succ j => simp at hj
    | zero =>
      simp only [List.getElem?_cons_zero, Option.some.injEq] at hj
      subst hj
      have h0 := hr.sl.2 0 _ rfl
      generalize a.tmps.getD 0 Go.undef = y at h0 ⊢
      cases h0 with | ref h0 =>
      have h1 := (h0.2 _ _ _ _ new).2 rfl
      refine .ref ⟨by rw [hlen]; exact hdl, fun v' s' r' e' h' => ?_⟩
      rw [gd] at h'; cases h'
      refine ⟨Nat.le_refl _, fun _ => ?_⟩
      rw [md]; exact h1
  · by_cases hjd : j = d
    · subst hjd
      rw [gd] at h; cases h
      rcases hr.st.row _ _ _ _ _ new with h1 | ⟨g, m, cur, T, lo, hi, a1, a2, a3, a4, a5, a6, a7, a8⟩
      · exact .inl ⟨h1.1, by rw [md]; exact h1.2⟩
      · refine .inr ⟨g, m, cur, T, lo, hi, by rw [md]; exact a1, a2, a3, a4, a5, fun i cs k v hi hk' => ?_, (fun h => nomatch h), a8⟩
        have hcs : v.cl st.length = true := by
          have hm := List.mem_of_getElem? hi
          simp only [lift, List.mem_map] at hm
          obtain ⟨cs0, _, rfl⟩ := hm
          simp only [List.getElem?_map, Option.map_eq_some_iff] at hk'
          obtain ⟨x, _, rfl⟩ := hk'
          rfl
        exact hk hcs (a6 i cs k v hi hk')
    · rw [gn j hjd] at h
      rcases hr.st.row j v s ro es (old j _ h) with h1 | ⟨g, m, cur, T, lo, hi, a1, a2, a3, a4, a5, a6, a7, a8⟩
      · exact .inl ⟨h1.1, by rw [mn j hjd]; exact h1.2⟩
      · refine .inr ⟨g, m, cur, T, lo, hi, by rw [mn j hjd]; exact a1, a2, a3, a4, a5, fun i cs k v hi hk' => ?_, fun hro => (hq g (a7 hro)).1, a8⟩
        exact hk (clAll_get (hc _ (List.mem_of_getElem? h) cs (List.mem_of_getElem? hi)) k v hk') (a6 i cs k v hi hk')
  · by_cases hi : i = d
    · by_cases hj : j = d
      · omega
      · subst hi
        rw [gd] at h1; cases h1
        rw [gn j hj] at h2
        rw [md] at g1
        rw [mn j hj] at g2
        have := hr.st.inj st.length j _ _ _ _ _ _ _ _ _ new (old j _ h2) g1 g2
        have := lt_of_get? h2
        omega
    · rw [gn i hi] at h1
      rw [mn i hi] at g1
      by_cases hj : j = d
      · subst hj
        rw [gd] at h2; cases h2
        rw [md] at g2
        have := hr.st.inj i st.length _ _ _ _ _ _ _ _ _ (old i _ h1) new g1 g2
        have := lt_of_get? h1
        omega
      · rw [gn j hj] at h2
        rw [mn j hj] at g2
        exact hr.st.inj i j _ _ _ _ _ _ _ _ _ (old i _ h1) (old j _ h2) g1 g2
  · refine ⟨by rw [hlen]; exact hn, fun j hj v s ro es h => ?_⟩
    by_cases hjd : j = d
    · subst hjd
      rw [gd] at h; cases h
      exact ⟨v0, false, [], old _ _ hd, Nat.le_of_lt hv, fun h => h, fun h => absurd h (by omega)⟩
    · rw [gn j hjd] at h
      exact ⟨v, ro, es, old _ _ h, Nat.le_refl _, fun h => h, fun _ => ⟨rfl, mn j hjd⟩⟩
section
variable {P : Program} {G : Gl}
/-- what a call hands back, and its store, told less -/
theorem CallW.weak {f : FuncId} {args : List V} {st : List Ob} {K K2 : V → List Ob → Prop} (h : CallW P G f args st K) (hk : ∀ r st', K r st' → ∃ r2 st2, Le st.length ⟨[r], st'⟩ ⟨[r2], st2⟩ ∧ K2 r2 st2) : CallW P G f args st K2 := by
  refine ⟨h.enter, fun D μ w args' hg ha hs => (h.calls D μ w args' hg ha hs).mono ?_⟩
  rintro e w' ⟨r, r', st', μ', rfl, hK, hv, hs', hf, he⟩
  obtain ⟨r2, st2, hl, hK2⟩ := hk r st' hK
  have hrel : Rel D μ' ⟨[r], st'⟩ { tmps := #[r'], defers := [] } w' := by
    refine ⟨rfl, ⟨rfl, fun j v hj => ?_⟩, hs'⟩
    cases j with
    | zero => simp only [List.getElem?_cons_zero, Option.some.injEq] at hj; subst hj; exact hv
    | succ j => simp at hj
  obtain ⟨μ2, r1, f1, e1⟩ := hl D μ' _ w' he.1 hrel
  have h0 := r1.sl.2 0 r2 rfl
  exact ⟨r2, r', st2, μ2, rfl, hK2, h0, r1.st, hf.trans f1, he.trans e1⟩
/-- a new row of a call takes an empty one's place -/
theorem CallW.into {f : FuncId} {args : List V} {st : List Ob} (d ver v0 sz len : Nat) (is : List (List I)) (h : CallW P G f args st (fun r st' => r = .ref st.length ver 0 len ∧ st' = st ++ [.row ver sz false (lift is)])) (hd : st[d]? = some (.row v0 sz false [])) (hv : v0 < ver) (hc : ∀ o ∈ st, o.cl st.length) :
    CallW P G f args st (fun r st' => r = .ref d ver 0 len ∧ st' = st.set d (.row ver sz false (lift is))) :=
  h.weak fun r st' hh => by
    obtain ⟨rfl, rfl⟩ := hh
    exact ⟨_, _, Le.move d ver v0 sz len is (Nat.le_refl _) hd hv hc, rfl, rfl⟩
mutual
theorem ren_id {f : Nat → Nat} {m : Nat} (hf : ∀ i, i < m → f i = i) : ∀ v : V, V.cl m v = true → v.ren f = v
  | .i _, _ => rfl
  | .ref id _ _ _, h => by simp only [V.cl, decide_eq_true_eq] at h; simp only [V.ren, hf id h]
  | .ptr id _ _ _, h => by simp only [V.cl, decide_eq_true_eq] at h; simp only [V.ren, hf id h]
  | .iptr _ _, _ => rfl
  | .nilf, _ => rfl
  | .nils, _ => rfl
  | .undef, _ => rfl
  | .fn g a b, h => by
    simp only [V.cl, Bool.and_eq_true] at h
    simp only [V.ren, renAll_id hf a h.1, renAll_id hf b h.2]
  | .agg cs, h => by simp only [V.cl] at h; simp only [V.ren, renAll_id hf cs h]
  | .tup cs, h => by simp only [V.cl] at h; simp only [V.ren, renAll_id hf cs h]
theorem renAll_id {f : Nat → Nat} {m : Nat} (hf : ∀ i, i < m → f i = i) : ∀ vs : List V, V.cl.clAll m vs = true → V.ren.renAll f vs = vs
  | [], _ => rfl
  | v :: vs, h => by
    simp only [V.cl.clAll, Bool.and_eq_true] at h
    simp only [V.ren.renAll, ren_id hf v h.1, renAll_id hf vs h.2]
end
theorem ob_ren_id {f : Nat → Nat} {m : Nat} (hf : ∀ i, i < m → f i = i) {o : Ob} (h : o.cl m) : o.ren f = o := by
  cases o with
  | dead => rfl
  | row ver sz ro es =>
    simp only [Ob.ren]
    congr 1
    refine List.ext_getElem (by simp) fun i h1 h2 => ?_
    rw [List.getElem_map]
    exact renAll_id hf _ (h _ (List.getElem_mem _))
theorem map_ren_id {f : Nat → Nat} {m : Nat} (hf : ∀ i, i < m → f i = i) {st : List Ob} (h : ∀ o ∈ st, o.cl m) : st.map (Ob.ren f) = st := by
  refine List.ext_getElem (by simp) fun i h1 h2 => ?_
  rw [List.getElem_map]
  exact ob_ren_id hf (h _ (List.getElem_mem _))
/-- a contract where more rows lie behind -/
theorem CallW.tail {f : FuncId} {args : List V} {st0 st1 : List Ob} {v : V} (post : List Ob) (h : CallW P G f args st0 (fun r st' => r = v ∧ st' = st1)) (hl : st1.length = st0.length) (hcl : ∀ o ∈ st0, o.cl st0.length) (hcl1 : ∀ o ∈ st1, o.cl st0.length) (ha : V.cl.clAll st0.length args = true) (hv : V.cl st0.length v = true) :
    CallW P G f args (st0 ++ post) (fun r st' => r = v ∧ st' = st1 ++ post) := by
  have hf : ∀ i, i < st0.length → fm (List.range st0.length) (st0 ++ post).length i = i := fun i hi => by simp [fm, hi]
  have hlt : ∀ i ∈ List.range st0.length, i < (st0 ++ post).length := fun i hi => by simp at hi ⊢; omega
  have := CallW.rise (bargs := args) (big := st0 ++ post) (List.range st0.length) [] h (by simp) List.nodup_range hlt (by
    rw [map_ren_id hf hcl]
    refine List.ext_getElem (by simp) fun i h1 h2 => ?_
    rw [List.getElem_map, List.getElem_range, List.getD_eq_getElem?_getD, List.getElem?_append_left h1, List.getElem?_eq_getElem h1]
    rfl) hcl (by simp) rfl (fun j s v hs hv => by rw [hs] at hv; cases hv; exact .inl ⟨clAll_get ha j s hs, (ren_id hf s (clAll_get ha j s hs)).symm⟩) (.inl rfl)
  refine this.mono ?_
  rintro r st' ⟨r0, s0, ⟨rfl, rfl⟩, rfl, rfl⟩
  refine ⟨ren_id hf _ hv, ?_⟩
  rw [map_ren_id hf hcl1]
  obtain ⟨p1, p2, p3, p4⟩ := putAll_spec (List.range st0.length) (st0 ++ post) s0 hlt List.nodup_range (by simp [hl])
  apply List.ext_getElem?
  intro i
  rcases Nat.lt_or_ge i st0.length with h1 | h1
  · rw [List.getElem?_append_left (by omega)]
    exact p3 i i (by simp [h1])
  · rcases Nat.lt_or_ge i (st0 ++ post).length with h2 | h2
    · rw [p2 i h2 (by simp; omega), List.getElem?_append_right h1, List.getElem?_append_right (by omega), hl]
    · have := p4 (i - (st0 ++ post).length)
      rw [show (st0 ++ post).length + (i - (st0 ++ post).length) = i by omega] at this
      rw [this, List.getElem?_eq_none (by simp [hl]), List.getElem?_eq_none (by simp at h2 ⊢; omega)]
end
end Go.Proofs.YtdbmfnhbgacldaaDoor.Am
