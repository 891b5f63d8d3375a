/- The logic: a nil slice in a row's cell becomes a row of its own. -/
import Derived.Test.YtdbmfnhbgacldaaDoorAmY
namespace Go.Proofs.YtdbmfnhbgacldaaDoor.Am
set_option autoImplicit false
set_option linter.unusedVariables false
set_option linter.unusedSimpArgs false
theorem Le.nilCell {n : Nat} {sl : List V} {st : List Ob} (id e j sz' : Nat) {ver sz : Nat} {ro : Bool} {es : List (List V)} {cs : List V} (hid : st[id]? = some (.row ver sz ro es)) (he : es[e]? = some cs) (hj : cs[j]? = some .nils) :
    Le n ⟨sl, st⟩ ⟨sl, st.set id (.row ver sz ro (es.set e (cs.set j (.ref st.length 1 0 0)))) ++ [.row 1 sz' false []]⟩ := by
  intro D μ a w hn hr
  obtain ⟨μ1, hμ1, r1, r2, r3, r4⟩ : ∃ μ1 : Mu, μ1 st.length = none ∧ srel D μ1 (st ++ [.row 1 sz' false []]) w ∧ Fr μ st w μ1 (st ++ [.row 1 sz' false []]) w ∧ Ev st.length μ st μ1 (st ++ [.row 1 sz' false []]) ∧ ∀ v y, vrel μ st (qd D μ st w) w v y → vrel μ1 (st ++ [.row 1 sz' false []]) (qd D μ1 (st ++ [.row 1 sz' false []]) w) w v y := by
    obtain ⟨r1, r2, r3, r4⟩ := new_row 1 hr.st (Grow.refl w) (x := none) (sz' := sz') (es' := []) (.inl ⟨rfl, rfl⟩)
    exact ⟨_, upd_same _ _ _, r1, r2, r3, r4⟩
  have hlt := lt_of_get? hid
  have hst : st.set id (.row ver sz ro (es.set e (cs.set j (.ref st.length 1 0 0)))) ++ [.row 1 sz' false []] = (st ++ [Ob.row 1 sz' false []]).set id (Ob.row ver sz ro (es.set e (cs.set j (.ref st.length 1 0 0)))) := by
    apply List.ext_getElem?
    intro i
    by_cases hi : id = i
    · subst hi
      rw [getElem?_set_eq' (by simp; omega), List.getElem?_append_left (by simpa using hlt), getElem?_set_eq' hlt]
    · rw [getElem?_set_ne' hi]
      rcases Nat.lt_or_ge i st.length with h | h
      · rw [List.getElem?_append_left (by simpa using h), getElem?_set_ne' hi, List.getElem?_append_left h]
      · rw [List.getElem?_append_right (by simpa using h), List.getElem?_append_right h, List.length_set]
  have hid1 : (st ++ [Ob.row 1 sz' false []])[id]? = some (.row ver sz ro es) := by rw [List.getElem?_append_left hlt]; exact hid
  have hnew : (st ++ [Ob.row 1 sz' false []])[st.length]? = some (.row 1 sz' false []) := by simp
  rw [hst]
  generalize hs1 : st ++ [Ob.row 1 sz' false []] = st1 at *
  have hl1 := lt_of_get? hid1
  have hne : id ≠ st.length := by omega
  have hget : ∀ (i v s : Nat) (r : Bool) (x : List (List V)), (st1.set id (.row ver sz ro (es.set e (cs.set j (.ref st.length 1 0 0)))))[i]? = some (.row v s r x) → ∃ x0, st1[i]? = some (.row v s r x0) ∧ x0.length = x.length := by
    intro i v s r x h
    by_cases hi : id = i
    · subst hi
      rw [getElem?_set_eq' hl1] at h
      cases h
      exact ⟨es, hid1, by simp⟩
    · rw [getElem?_set_ne' hi] at h
      exact ⟨x, h, rfl⟩
  have hev : Ev st1.length μ1 st1 μ1 (st1.set id (.row ver sz ro (es.set e (cs.set j (.ref st.length 1 0 0))))) := ⟨by simp, fun i hi v s r x h => by
    obtain ⟨x0, h3, h4⟩ := hget _ _ _ _ _ h
    exact ⟨v, r, x0, h3, Nat.le_refl _, fun h => h, fun _ => ⟨h4, rfl⟩⟩⟩
  have hlv : ∀ k, live μ1 (st1.set id (.row ver sz ro (es.set e (cs.set j (.ref st.length 1 0 0))))) k → live μ1 st1 k := by
    rintro k ⟨i, v, s, x, m, h1, h2⟩
    obtain ⟨x0, h3, _⟩ := hget _ _ _ _ _ h1
    exact ⟨i, v, s, x0, m, h3, h2⟩
  have hq : ∀ k, qd D μ1 st1 w k → qd D μ1 (st1.set id (.row ver sz ro (es.set e (cs.set j (.ref st.length 1 0 0))))) w k ∧ w.heap[k]? = w.heap[k]? := fun k hk => ⟨⟨⟨hk.1.1, fun h => hk.1.2 (hlv k h)⟩, hk.2⟩, rfl⟩
  refine ⟨_, ⟨hr.dfr, ⟨hr.sl.1, fun i v hi => (r4 _ _ (hr.sl.2 i v hi)).keep hev hq⟩, ⟨r1.dom, fun i v s r x h => ?_, fun i i' v1 s1 e1 v2 s2 e2 g m1 m2 h1 h2 h3 h4 => ?_⟩⟩, r2.trans ⟨rfl, rfl, rfl, Nat.le_refl _, fun k hk => ⟨rfl, fun h => hk.2 (hlv k h)⟩⟩, (r3.trans (hev.mono (by rw [← hs1]; simp))).mono hn⟩
  · by_cases hi : id = i
    · subst hi
      rw [getElem?_set_eq' hl1] at h
      cases h
      rcases r1.row id _ _ _ _ hid1 with ⟨b1, b2⟩ | ⟨g, m, cur, T, lo, hi', b1, b2, b3, b4, b5, b6, b7, b8, b9⟩
      · rw [b1] at he; simp at he
      · have hel := lt_of_get? he
        have hjl := lt_of_get? hj
        refine .inr ⟨g, m, cur, T, lo, hi', b1, b2, b3, by simpa using b4, fun i2 cs2 h2 => ?_, fun i2 cs2 j2 v2 h2 h3 => ?_, fun hr => (hq g (b7 hr)).1, b8, b9⟩
        · by_cases hei : e = i2
          · subst hei
            rw [getElem?_set_eq' hel] at h2
            cases h2
            simpa using b5 e cs he
          · rw [getElem?_set_ne' hei] at h2
            exact b5 i2 cs2 h2
        · by_cases hei : e = i2
          · subst hei
            rw [getElem?_set_eq' hel] at h2
            cases h2
            by_cases hjj : j = j2
            · subst hjj
              rw [getElem?_set_eq' hjl] at h3
              cases h3
              have := b6 e cs j .nils he hj
              generalize cur.getD (e * sz + j) Go.undef = y at this ⊢
              cases this
              refine .ref ⟨by rw [List.length_set, ← hs1]; simp, fun v' s' r' e' h' => ?_⟩
              rw [getElem?_set_ne' hne, hnew] at h'
              cases h'
              exact ⟨Nat.le_refl _, fun _ => ⟨by simp, .inl ⟨rfl, hμ1, rfl⟩⟩⟩
            · rw [getElem?_set_ne' hjj] at h3
              exact (b6 e cs j2 v2 he h3).keep hev hq
          · rw [getElem?_set_ne' hei] at h2
            exact (b6 i2 cs2 j2 v2 h2 h3).keep hev hq
    · rw [getElem?_set_ne' hi] at h
      rcases r1.row i _ _ _ _ h with ⟨b1, b2⟩ | ⟨g, m, cur, T, lo, hi', b1, b2, b3, b4, b5, b6, b7, b8, b9⟩
      · exact .inl ⟨b1, b2⟩
      · exact .inr ⟨g, m, cur, T, lo, hi', b1, b2, b3, b4, b5, fun i2 cs2 j2 v2 h2 h3 => (b6 i2 cs2 j2 v2 h2 h3).keep hev hq, fun hr => (hq g (b7 hr)).1, b8, b9⟩
  · obtain ⟨_, h5, _⟩ := hget _ _ _ _ _ h1
    obtain ⟨_, h6, _⟩ := hget _ _ _ _ _ h2
    exact r1.inj i i' _ _ _ _ _ _ g m1 m2 h5 h6 h3 h4
end Go.Proofs.YtdbmfnhbgacldaaDoor.Am
