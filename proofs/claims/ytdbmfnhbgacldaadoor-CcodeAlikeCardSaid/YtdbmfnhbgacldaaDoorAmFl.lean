/- The logic: code in two parts; a row told in cells of its own, and back. -/
import Derived.Test.YtdbmfnhbgacldaaDoorAmW
import Derived.Test.YtdbmfnhbgacldaaDoorAmRf
namespace Go.Proofs.YtdbmfnhbgacldaaDoor.Am
set_option autoImplicit false
set_option linter.unusedVariables false
set_option linter.unusedSimpArgs false
section
variable {P : Program} {G : Gl}
theorem W.seq {n : Nat} {x y : Code} {Q : Exit → S → Prop} {s : S} (h : W P G n x (fun e s' => match e with | .normal => W P G n y Q s' | e => Q e s') s) : W P G n (.seq x y) Q s := by
  refine ⟨fun D μ a w hn hg hr => ?_⟩
  refine wp_seq (wp_mono (h.out D μ a w hn hg hr) fun e a' w' hp => ?_)
  obtain ⟨s', μ', h1, h2, h3, h4⟩ := hp
  cases e with
  | normal => exact wp_mono (h1.out D μ' a' w' h4.1 (hg.keep h3) h2) fun e a'' w'' hp => Post.trans h3 h4 hp
  | _ => exact ⟨s', μ', h1, h2, h3, h4⟩
/-- a row is told in other elements, under a new number -/
theorem Le.recast {n : Nat} {sl : List V} {st : List Ob} (t id : Nat) {ver sz ver' sz' : Nat} {es es' : List (List V)} (hn : n ≤ id) (hid : st[id]? = some (.row ver sz false es)) (ht : sl[t]? = some (.ptr id ver 0 0)) (h0 : 0 < es'.length)
    (hl : (∀ (i : Nat) (cs : List V), es[i]? = some cs → cs.length = sz) → es'.length * sz' ≤ es.length * sz)
    (h1 : (∀ (i : Nat) (cs : List V), es[i]? = some cs → cs.length = sz) → ∀ (i : Nat) (cs : List V), es'[i]? = some cs → cs.length = sz')
    (h2 : (∀ (i : Nat) (cs : List V), es[i]? = some cs → cs.length = sz) → ∀ (i : Nat) (cs : List V) (j : Nat) (v : V), es'[i]? = some cs → cs[j]? = some v → ∃ i0 cs0 j0, es[i0]? = some cs0 ∧ cs0[j0]? = some v ∧ i0 * sz + j0 = i * sz' + j) :
    Le n ⟨sl, st⟩ ⟨sl.set t (.ptr st.length ver' 0 0), st.set id .dead ++ [.row ver' sz' false es']⟩ := by
  intro D μ a w hnn hr
  have hlt := lt_of_get? hid
  have htl := lt_of_get? ht
  obtain ⟨g, m, hμ, hy⟩ : ∃ g m, μ id = some (g, m) ∧ a.tmps.getD t Go.undef = .pointer (some ⟨g, 0, none⟩) := by
    have := hr.sl.2 t _ ht
    generalize a.tmps.getD t Go.undef = y at this
    cases this with
    | ptr h =>
      obtain ⟨_, g, m, h3, h4⟩ := (h.2 _ _ _ _ hid).2 rfl
      exact ⟨g, m, h3, by rw [h4]; simp⟩
  obtain ⟨cur, T, lo, hi, b2, b3, b4, b5, b6, b8, b9⟩ : ∃ cur T lo hi, w.heap[g]? = some (.cells cur T (lo, hi)) ∧ cur.size = m ∧ es.length * sz ≤ m ∧ (∀ (i : Nat) (cs : List V), es[i]? = some cs → cs.length = sz) ∧
      (∀ (i : Nat) (cs : List V) (j : Nat) (v : V), es[i]? = some cs → cs[j]? = some v → vrel μ st (qd D μ st w) w v (cur.getD (i * sz + j) Go.undef)) ∧ D g ∧ unfz lo hi m := by
    rcases hr.st.row id _ _ _ _ hid with ⟨_, c2⟩ | ⟨g', m', cur, T, lo, hi, c1, c2, c3, c4, c5, c6, _, c8, c9⟩
    · rw [hμ] at c2; cases c2
    · rw [hμ] at c1; cases c1
      exact ⟨cur, T, lo, hi, c2, c3, c4, c5, c6, c8, c9⟩
  let μ' : Mu := fun i => if i = st.length then some (g, m) else μ i
  let st' := st.set id .dead ++ [Ob.row ver' sz' false es']
  have hlen : (st.set id .dead).length = st.length := by simp
  have old : ∀ (i v s : Nat) (r : Bool) (x : List (List V)), st'[i]? = some (.row v s r x) → (i = st.length ∧ v = ver' ∧ s = sz' ∧ r = false ∧ x = es') ∨ (i < st.length ∧ i ≠ id ∧ st[i]? = some (.row v s r x)) := by
    intro i v s r x h
    by_cases hi : i < st.length
    · right
      have h' : (st.set id .dead)[i]? = some (.row v s r x) := by rw [← h]; exact (List.getElem?_append_left (by omega)).symm
      by_cases hii : id = i
      · subst hii
        rw [getElem?_set_eq' hlt] at h'
        cases h'
      · rw [getElem?_set_ne' hii] at h'
        exact ⟨hi, fun e => hii e.symm, h'⟩
    · left
      have h' : ([Ob.row ver' sz' false es'] : List Ob)[i - st.length]? = some (.row v s r x) := by
        rw [← h]; show _ = (st.set id .dead ++ [Ob.row ver' sz' false es'])[i]?
        rw [List.getElem?_append_right (by omega), hlen]
      have hk : i - st.length = 0 := by
        have := lt_of_get? h'
        simp at this; omega
      rw [hk] at h'
      simp only [List.getElem?_cons_zero, Option.some.injEq, Ob.row.injEq] at h'
      obtain ⟨e1, e2, e3, e4⟩ := h'
      exact ⟨by omega, e1.symm, e2.symm, e3.symm, e4.symm⟩
  have hne : ∀ i, i < st.length → μ' i = μ i := fun i hi => by show (if i = st.length then _ else _) = _; rw [if_neg (by omega)]
  have hnew : μ' st.length = some (g, m) := by show (if st.length = st.length then _ else _) = _; rw [if_pos rfl]
  have hev : Ev st.length μ st μ' st' := ⟨by show st.length ≤ (st.set id .dead ++ [_]).length; simp, fun i hi v s r x h => by
    rcases old i v s r x h with ⟨h3, _⟩ | ⟨_, _, h3⟩
    · omega
    · exact ⟨v, r, x, h3, Nat.le_refl _, fun h => h, fun _ => ⟨rfl, hne i hi⟩⟩⟩
  have hlv : ∀ k, live μ' st' k → live μ st k := by
    rintro k ⟨i, v, s, x, m', k1, k2⟩
    rcases old i v s false x k1 with ⟨rfl, _⟩ | ⟨hi, _, k3⟩
    · rw [hnew] at k2; cases k2
      exact ⟨id, ver, sz, es, m, hid, hμ⟩
    · rw [hne i hi] at k2
      exact ⟨i, v, s, x, m', k3, k2⟩
  have hq : ∀ k, qd D μ st w k → qd D μ' st' w k ∧ w.heap[k]? = w.heap[k]? := fun k hk => ⟨⟨⟨hk.1.1, fun h => hk.1.2 (hlv k h)⟩, hk.2⟩, rfl⟩
  have hk : ∀ {v : V} {y : Value}, vrel μ st (qd D μ st w) w v y → vrel μ' st' (qd D μ' st' w) w v y := fun h => h.keep hev hq
  refine ⟨μ', ⟨hr.dfr, ⟨by rw [hr.sl.1]; simp, fun j v hj => ?_⟩, ⟨hr.st.dom, fun i v s r x h => ?_, fun i i' v1 s1 e1 v2 s2 e2 k m1 m2 k1 k2 k3 k4 => ?_⟩⟩, ⟨rfl, rfl, rfl, Nat.le_refl _, fun k hk => ⟨rfl, fun h => hk.2 (hlv k h)⟩⟩, ?_⟩
  · by_cases hjt : t = j
    · subst hjt
      rw [getElem?_set_eq' htl] at hj
      cases hj
      rw [hy]
      refine .ptr ⟨by show st.length < (st.set id .dead ++ [_]).length; simp, fun v s r x h => ?_⟩
      rcases old _ v s r x h with ⟨_, rfl, rfl, rfl, rfl⟩ | ⟨h3, _⟩
      · exact ⟨Nat.le_refl _, fun _ => ⟨h0, g, m, hnew, by simp⟩⟩
      · omega
    · rw [getElem?_set_ne' hjt] at hj
      exact hk (hr.sl.2 j v hj)
  · rcases old i v s r x h with ⟨rfl, rfl, rfl, rfl, rfl⟩ | ⟨hi, _, h3⟩
    · refine .inr ⟨g, m, cur, T, lo, hi, hnew, b2, b3, Nat.le_trans (hl b5) b4, h1 b5, fun i cs j v k1 k2 => ?_, (fun h => nomatch h), b8, b9⟩
      obtain ⟨i0, cs0, j0, k3, k4, k5⟩ := h2 b5 i cs j v k1 k2
      rw [← k5]
      exact hk (b6 i0 cs0 j0 v k3 k4)
    · rcases hr.st.row i _ _ _ _ h3 with ⟨c1, c2⟩ | ⟨g', m', cur', T', lo', hi', c1, c2, c3, c4, c5, c6, c7, c8, c9⟩
      · exact .inl ⟨c1, by rw [hne i hi]; exact c2⟩
      · exact .inr ⟨g', m', cur', T', lo', hi', by rw [hne i hi]; exact c1, c2, c3, c4, c5, fun i2 cs2 j2 v2 k1 k2 => hk (c6 i2 cs2 j2 v2 k1 k2), fun hr => (hq g' (c7 hr)).1, c8, c9⟩
  · rcases old i v1 s1 false e1 k1 with ⟨rfl, _⟩ | ⟨hi, hii, q1⟩
    · rcases old i' v2 s2 false e2 k2 with ⟨rfl, _⟩ | ⟨hi', hii', q2⟩
      · rfl
      · rw [hnew] at k3; cases k3
        rw [hne i' hi'] at k4
        exact absurd (hr.st.inj i' id _ _ _ _ _ _ g m2 m q2 hid k4 hμ) hii'
    · rcases old i' v2 s2 false e2 k2 with ⟨rfl, _⟩ | ⟨hi', hii', q2⟩
      · rw [hnew] at k4; cases k4
        rw [hne i hi] at k3
        exact absurd (hr.st.inj i id _ _ _ _ _ _ g m1 m q1 hid k3 hμ) hii
      · rw [hne i hi] at k3
        rw [hne i' hi'] at k4
        exact hr.st.inj i i' _ _ _ _ _ _ k m1 m2 q1 q2 k3 k4
  · exact hev.mono hnn
/-- a box is told cell by cell -/
theorem Le.flat {n : Nat} {sl : List V} {st : List Ob} (t id : Nat) {ver sz : Nat} {cs : List V} (hn : n ≤ id) (hid : st[id]? = some (.row ver sz false [cs])) (ht : sl[t]? = some (.ptr id ver 0 0)) (h0 : 0 < cs.length) :
    Le n ⟨sl, st⟩ ⟨sl.set t (.ptr st.length 1 0 0), st.set id .dead ++ [.row 1 1 false (cs.map fun c => [c])]⟩ := by
  refine Le.recast t id hn hid ht (by simpa using h0) (fun h => ?_) (fun _ i cs' h => ?_) (fun _ i cs' j v h k => ?_)
  · have := h 0 cs rfl
    simp [this]
  · simp only [List.getElem?_map, Option.map_eq_some_iff] at h
    obtain ⟨c, _, rfl⟩ := h
    rfl
  · simp only [List.getElem?_map, Option.map_eq_some_iff] at h
    obtain ⟨c, hc, rfl⟩ := h
    cases j with
    | zero =>
      simp only [List.getElem?_cons_zero, Option.some.injEq] at k
      subst k
      exact ⟨0, cs, i, rfl, hc, by simp⟩
    | succ j => simp at k
/-- cells become a box again -/
theorem Le.unflat {n : Nat} {sl : List V} {st : List Ob} (t id : Nat) {ver : Nat} {cs : List V} (hn : n ≤ id) (hid : st[id]? = some (.row ver 1 false (cs.map fun c => [c]))) (ht : sl[t]? = some (.ptr id ver 0 0)) :
    Le n ⟨sl, st⟩ ⟨sl.set t (.ptr st.length 0 0 0), st.set id .dead ++ [.row 0 cs.length false [cs]]⟩ := by
  refine Le.recast t id hn hid ht (by simp) (fun h => by simp) (fun _ i cs' h => ?_) (fun _ i cs' j v h k => ?_)
  · cases i with
    | zero => simp only [List.getElem?_cons_zero, Option.some.injEq] at h; subst h; rfl
    | succ i => simp at h
  · cases i with
    | zero =>
      simp only [List.getElem?_cons_zero, Option.some.injEq] at h; subst h
      exact ⟨j, [v], 0, by simp [k], rfl, by simp⟩
    | succ i => simp at h
end
end Go.Proofs.YtdbmfnhbgacldaaDoor.Am
