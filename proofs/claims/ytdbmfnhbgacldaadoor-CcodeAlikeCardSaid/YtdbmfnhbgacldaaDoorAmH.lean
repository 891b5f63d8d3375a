/- Operations of the model on abstract states: append. -/
import Derived.Test.YtdbmfnhbgacldaaDoorAmG
namespace Go.Proofs.YtdbmfnhbgacldaaDoor.Am
set_option autoImplicit false
set_option linter.unusedVariables false
set_option linter.unusedSimpArgs false
section
variable {P : Program} {D : Nat → Prop} {μ : Mu} {st : List Ob} {w : World}

/-- a row without elements and without a block gets a higher version -/
theorem bump_row (hs : srel D μ st w) {id ver sz : Nat} (hid : st[id]? = some (.row ver sz false [])) (hμ : μ id = none) {ver' : Nat} (hv : ver < ver') :
    srel D μ (st.set id (.row ver' sz false [])) w ∧ Fr μ st w μ (st.set id (.row ver' sz false [])) w ∧ Ev st.length μ st μ (st.set id (.row ver' sz false [])) := by
  have hlt := lt_of_get? hid
  have live' : ∀ k, live μ (st.set id (.row ver' sz false [])) k → live μ st k := by
    rintro k ⟨i, v, s, e, m', h1, h2⟩
    by_cases hi : id = i
    · subst hi; rw [hμ] at h2; cases h2
    · rw [getElem?_set_ne' hi] at h1; exact ⟨i, v, s, e, m', h1, h2⟩
  have hprot : ∀ k, qd D μ st w k → qd D μ (st.set id (.row ver' sz false [])) w k ∧ w.heap[k]? = w.heap[k]? := fun k hk => ⟨⟨⟨hk.1.1, fun h => hk.1.2 (live' k h)⟩, hk.2⟩, rfl⟩
  have hev : Ev st.length μ st μ (st.set id (.row ver' sz false [])) := by
    refine ⟨by simp, fun i _ v s r e h => ?_⟩
    by_cases hi : id = i
    · subst hi
      rw [getElem?_set_eq' hlt] at h
      obtain ⟨rfl, rfl, rfl, rfl⟩ := Ob.row.inj (Option.some.inj h)
      exact ⟨ver, false, [], hid, Nat.le_of_lt hv, fun h => h, fun h => by omega⟩
    · rw [getElem?_set_ne' hi] at h
      exact ⟨v, r, e, h, Nat.le_refl _, fun h => h, fun _ => ⟨rfl, rfl⟩⟩
  refine ⟨⟨hs.dom, fun i v s r e h => ?_, fun i j v1 s1 e1 v2 s2 e2 k m1 m2 h1 h2 h3 h4 => ?_⟩, ⟨rfl, rfl, rfl, Nat.le_refl _, fun k hk => ⟨rfl, fun h => hk.2 (live' k h)⟩⟩, hev⟩
  · by_cases hi' : id = i
    · subst hi'
      rw [getElem?_set_eq' hlt] at h
      obtain ⟨rfl, rfl, rfl, rfl⟩ := Ob.row.inj (Option.some.inj h)
      exact .inl ⟨rfl, hμ⟩
    · rw [getElem?_set_ne' hi'] at h
      rcases hs.row i v s r e h with h1 | ⟨g', m', cur', T', lo', hi'', h1, h2, h3, h4, h5, h6, h7, h8⟩
      · exact .inl h1
      · exact .inr ⟨g', m', cur', T', lo', hi'', h1, h2, h3, h4, h5, fun i cs j v a b => (h6 i cs j v a b).keep hev hprot, fun hr => (hprot g' (h7 hr)).1, h8⟩
  · by_cases hi : id = i
    · subst hi; rw [hμ] at h3; cases h3
    · by_cases hj : id = j
      · subst hj; rw [hμ] at h4; cases h4
      · rw [getElem?_set_ne' hi] at h1
        rw [getElem?_set_ne' hj] at h2
        exact hs.inj i j v1 s1 e1 v2 s2 e2 k m1 m2 h1 h2 h3 h4

def srcType (P : Program) (t : TypeId) : Bool := match P.underlying t with | some (.slice _) | some .string => true | _ => false
theorem srcType_ok {t : TypeId} (h : srcType P t = true) : ∃ d, P.underlying t = some d ∧ ∀ k, d ≠ .int k := by
  unfold srcType at h
  split at h
  · rename_i e hu; exact ⟨_, hu, fun k h => by cases h⟩
  · rename_i hu; exact ⟨_, hu, fun k h => by cases h⟩
  · cases h

/-- what an append needs to know of its element's type: cells, bytes -/
def elInfo (P : Program) (t : TypeId) : Option (Nat × Nat) := match (elemA P t).bind P.info? with
  | some it => match it.zero with | some z => if z.cells.size = it.size then some (it.size, it.bytes) else none | none => none
  | none => none
theorem elInfo_ok {t : TypeId} {sz by_ : Nat} (h : elInfo P t = some (sz, by_)) : ∃ el it z, P.underlying t = some (.slice el) ∧ P.info? el = some it ∧ it.zero = some z ∧ z.cells.size = sz ∧ it.size = sz ∧ it.bytes = by_ := by
  unfold elInfo at h
  split at h
  · rename_i it hit
    split at h
    · rename_i z hz
      split at h
      · rename_i hc
        cases h
        obtain ⟨el, he, hi⟩ := Option.bind_eq_some_iff.1 hit
        exact ⟨el, it, z, elemA_ok he, hi, hz, hc, rfl, rfl⟩
      · cases h
    · cases h
  · cases h

def appA (P : Program) (st : List Ob) (t t1 : TypeId) (s x : V) : Option (Prop × V × List Ob) :=
  match elInfo P t with
  | some (sz, by_) => if srcType P t1 = true then
      match srcA st sz x with
      | some (p, news) => match s with
        | .nils => some ((p ∧ news.length * by_ ≤ 140737488355328 ∧ news.length ≤ maxLen), .ref st.length 1 0 news.length, st ++ [.row 1 sz false news])
        | .ref id ver 0 len => match st[id]? with
          | some (.row ver' sz' false es) => if ver = ver' ∧ sz' = sz then
              some ((p ∧ len = es.length ∧ (len + news.length) * by_ ≤ 140737488355328 ∧ len + news.length ≤ maxLen), .ref id (ver + 1) 0 (len + news.length), st.set id (.row (ver + 1) sz false (es ++ news)))
            else none
          | _ => none
        | _ => none
      | none => none
    else none
  | none => none

theorem append_each {es news : List (List V)} {sz : Nat} (h1 : ∀ (i : Nat) (cs : List V), es[i]? = some cs → cs.length = sz) (h2 : ∀ (i : Nat) (cs : List V), news[i]? = some cs → cs.length = sz) :
    ∀ (i : Nat) (cs : List V), (es ++ news)[i]? = some cs → cs.length = sz := by
  intro i cs h
  by_cases hi : i < es.length
  · rw [List.getElem?_append_left hi] at h; exact h1 i cs h
  · rw [List.getElem?_append_right (by omega)] at h; exact h2 _ cs h

/-- the cells of a block that was just made by an append -/
theorem grown_cells {Q : Nat → Prop} {μ' : Mu} {st' : List Ob} {w' : World} {es news : List (List V)} {sz : Nat} {olds newv rest : List Value} (hl : olds.length = es.length * sz)
    (h1 : ∀ (i : Nat) (cs : List V), es[i]? = some cs → cs.length = sz) (h2 : ∀ (i : Nat) (cs : List V), news[i]? = some cs → cs.length = sz) (hl2 : newv.length = news.length * sz)
    (h3 : ∀ (i : Nat) (cs : List V) (j : Nat) (v : V), es[i]? = some cs → cs[j]? = some v → vrel μ' st' Q w' v (olds.getD (i * sz + j) Go.undef))
    (h4 : ∀ (i : Nat) (cs : List V) (j : Nat) (v : V), news[i]? = some cs → cs[j]? = some v → vrel μ' st' Q w' v (newv.getD (i * sz + j) Go.undef)) :
    ∀ (i : Nat) (cs : List V) (j : Nat) (v : V), (es ++ news)[i]? = some cs → cs[j]? = some v → vrel μ' st' Q w' v ((olds ++ (newv ++ rest)).toArray.getD (i * sz + j) Go.undef) := by
  intro i cs j v hi hj
  have hjl := lt_of_get? hj
  rw [Array.getD_eq_getD_getElem?, List.getElem?_toArray]
  by_cases hil : i < es.length
  · rw [List.getElem?_append_left hil] at hi
    have := h1 i cs hi
    have hle : (i + 1) * sz ≤ es.length * sz := Nat.mul_le_mul_right _ hil
    rw [Nat.add_mul] at hle
    rw [List.getElem?_append_left (by omega)]
    simpa [List.getD] using h3 i cs j v hi hj
  · rw [List.getElem?_append_right (by omega)] at hi
    have := h2 _ cs hi
    have hil2 := lt_of_get? hi
    have hle : (i - es.length + 1) * sz ≤ news.length * sz := Nat.mul_le_mul_right _ hil2
    rw [Nat.add_mul] at hle
    have e1 : i * sz = es.length * sz + (i - es.length) * sz := by rw [← Nat.add_mul]; congr 1; omega
    rw [List.getElem?_append_right (by omega), List.getElem?_append_left (by omega)]
    have e2 : i * sz + j - olds.length = (i - es.length) * sz + j := by omega
    rw [e2]
    simpa [List.getD] using h4 _ cs j v hi hj

theorem appA_ok (hs : srel D μ st w) {t t1 ty : TypeId} {s x v : V} {s' x' : Value} {p : Prop} {st' : List Ob} (h : appA P st t t1 s x = some (p, v, st')) (hp : p) (hsv : vrel μ st (qd D μ st w) w s s') (hx : vrel μ st (qd D μ st w) w x x') :
    Does P D μ st w (Builtin.append_ #[t, t1] ty #[s', x']) v st' := by
  unfold appA at h
  cases hel : elInfo P t with
  | none => simp [hel] at h
  | some sb =>
    obtain ⟨sz, by_⟩ := sb
    obtain ⟨el, it, z, hu, hi, hz, hzs, rfl, rfl⟩ := elInfo_ok hel
    simp only [hel] at h
    split at h
    · rename_i hst
      obtain ⟨d1, hu1, hd1⟩ := srcType_ok hst
      cases hsrc0 : srcA st it.size x with
      | none => simp [hsrc0] at h
      | some pn =>
        obtain ⟨p0, news⟩ := pn
        simp only [hsrc0] at h
        have hgrew : ∀ (n c : Nat) (o : Obj), n < c → Grow w (w.drew.alloc o) := fun _ _ o _ => (Grow.drew w).trans (Grow.alloc _ o)
        have hcap : ∀ n c, n ≤ maxLen → n ≤ grownCap w n c el ∧ grownCap w n c el ≤ maxLen := fun n c hn => ⟨grownCap_ge w n c el, grownCap_le_maxLen w n c el hn⟩
        cases hsv with
        | nils =>
          simp only [Option.some.injEq, Prod.mk.injEq] at h
          obtain ⟨rfl, rfl, rfl⟩ := h
          obtain ⟨hp0, hb, hml⟩ := hp
          obtain ⟨newv, hsrc⟩ := srcA_ok (P := P) hs hsrc0 hp0 hx
          by_cases h0 : news.length = 0
          · have hnil : news = [] := List.eq_nil_of_length_eq_zero h0
            subst hnil
            have hnv : newv = [] := List.eq_nil_of_length_eq_zero (by have := hsrc.size; simpa using this)
            subst hnv
            obtain ⟨r1, r2, r3, _⟩ := new_row 1 hs (Grow.refl w) (x := none) (sz' := it.size) (es' := []) (.inl ⟨rfl, rfl⟩)
            refine ⟨.slice none 0 0, _, w, ?_, .ref ⟨by simp, fun v' s' r' e' h' => ?_⟩, r1, r2, r3⟩
            · have hz' : (d1 matches .int _) = false := by
                cases d1 with
                | int k => exact absurd rfl (hd1 k)
                | _ => rfl
              have hrd := hsrc.read w rfl
              have hln := hsrc.len w
              simp only [List.length_nil] at hrd hln
              simp [Builtin.append_, run_underlying hu, run_underlying hu1, hz', sizeOf, typeInfo, hi, hln, hrd]
            · rw [new_get] at h'; cases h'
              exact ⟨Nat.le_refl _, fun _ => ⟨by simp, .inl ⟨rfl, upd_same _ _ _, rfl⟩⟩⟩
          · obtain ⟨rest, hr, hrl⟩ := run_app_grow (P := P) (ty := ty) hu hi hz hu1 hd1 hsrc (base := none) (sLen := 0) (sCap := 0) (olds := []) (fun w1 _ => by simp [Builtin.firstCells]) (by omega) (by simpa using hb) (by simpa using hml)
            simp only [Nat.zero_add, List.nil_append] at hr hrl
            have hc := hcap news.length 0 hml
            have hsize : ((newv ++ rest).toArray).size = grownCap w news.length 0 el * it.size := by
              simp only [List.size_toArray, List.length_append, hsrc.size, hrl, hzs, ← Nat.add_mul]
              congr 1
              omega
            have hg2 : Grow w (w.drew.alloc (.cells (newv ++ rest).toArray el)) := (Grow.drew w).trans (Grow.alloc _ _)
            obtain ⟨r1, r2, r3, _⟩ := new_row 1 hs hg2 (x := some (w.heap.size, grownCap w news.length 0 el * it.size)) (sz' := it.size) (es' := news)
              (.inr ⟨w.heap.size, _, _, el, 0, 0, rfl, Nat.le_refl _, heap_alloc_new w.drew _, hsize, Nat.mul_le_mul_right _ hc.1, hsrc.each, .inl rfl, fun i cs j v hi hj => by
                have := grown_cells (es := []) (olds := []) (rest := rest) (sz := it.size) (by simp) (by simp) hsrc.each hsrc.size (by simp) hsrc.rel i cs j v (by simpa using hi) hj
                simpa using this⟩)
            refine ⟨_, _, _, hr, .ref ⟨by simp, fun v' s' r' e' h' => ?_⟩, r1, r2, r3⟩
            rw [new_get] at h'; cases h'
            exact ⟨Nat.le_refl _, fun _ => ⟨by simp, .inr (.inl ⟨w.heap.size, _, _, upd_same _ _ _, by simp, hc.1, hc.2, by simp⟩)⟩⟩
        | @ref id ver off len _ hrf =>
          cases off with
          | succ off => simp at h
          | zero =>
          simp only at h
          split at h
          · rename_i ver' sz' es hid
            split at h
            · rename_i hcc
              obtain ⟨rfl, rfl⟩ := hcc
              simp only [Option.some.injEq, Prod.mk.injEq] at h
              obtain ⟨rfl, rfl, rfl⟩ := h
              obtain ⟨hp0, hlen, hb, hml⟩ := hp
              subst hlen
              obtain ⟨newv, hsrc⟩ := srcA_ok (P := P) hs hsrc0 hp0 hx
              have hlt := lt_of_get? hid
              obtain ⟨_, h3⟩ := hrf.2 _ _ _ _ hid
              obtain ⟨_, h5⟩ := h3 rfl
              -- the block is a new one
              have grows : ∀ (base : Option Addr) (c : Nat) (olds : List Value), s' = .slice base es.length c → c < es.length + news.length →
                  (∀ w1 : World, w1.heap = w.heap → (Builtin.firstCells it.size es.length (.slice base es.length c)).run P w1 = .ok olds.toArray w1) → olds.length = es.length * it.size →
                  (∀ (i : Nat) (cs : List V), es[i]? = some cs → cs.length = it.size) →
                  (∀ (i : Nat) (cs : List V) (j : Nat) (v : V), es[i]? = some cs → cs[j]? = some v → vrel μ st (qd D μ st w) w v (olds.getD (i * it.size + j) Go.undef)) →
                  Does P D μ st w (Builtin.append_ #[t, t1] ty #[s', x']) (.ref id (ver + 1) 0 (es.length + news.length)) (st.set id (.row (ver + 1) it.size false (es ++ news))) := by
                rintro base c olds rfl hgr hold hol he1 he2
                obtain ⟨rest, hr, hrl⟩ := run_app_grow (P := P) (ty := ty) hu hi hz hu1 hd1 hsrc (base := base) (sLen := es.length) (sCap := c) (olds := olds) hold hgr hb hml
                have hc := hcap (es.length + news.length) c hml
                have hsize : ((olds ++ (newv ++ rest)).toArray).size = grownCap w (es.length + news.length) c el * it.size := by
                  simp only [List.size_toArray, List.length_append, hsrc.size, hrl, hzs, hol, ← Nat.add_mul]
                  congr 1
                  omega
                have hg2 : Grow w (w.drew.alloc (.cells (olds ++ (newv ++ rest)).toArray el)) := (Grow.drew w).trans (Grow.alloc _ _)
                obtain ⟨r1, r2, r3, _⟩ := move_row hs hid hg2 (ver' := ver + 1) (es' := es ++ news) (Nat.lt_succ_self _) (Nat.le_refl w.heap.size) (heap_alloc_new w.drew _) hsize
                  (by rw [List.length_append]; exact Nat.mul_le_mul_right _ hc.1) (append_each he1 hsrc.each) (.inl rfl)
                  (fun i cs j v hi hj hkeep => grown_cells hol he1 hsrc.each hsrc.size (fun i cs j v a b => hkeep _ _ (he2 i cs j v a b)) (fun i cs j v a b => hkeep _ _ (hsrc.rel i cs j v a b)) i cs j v hi hj)
                refine ⟨_, _, _, hr, .ref ⟨by simpa using hlt, fun v' s' r' e' h' => ?_⟩, r1, r2, r3⟩
                rw [getElem?_set_eq' hlt] at h'; cases h'
                exact ⟨Nat.le_refl _, fun _ => ⟨by simp, .inr (.inl ⟨w.heap.size, _, _, upd_same _ _ _, by simp, hc.1, hc.2, by simp⟩)⟩⟩
              rcases h5 with ⟨q1, q2, rfl⟩ | ⟨g, m, c, hμ, rfl, hlc, hcm, hcsz⟩ | ⟨_, q2, _⟩
              · have hnil : es = [] := List.eq_nil_of_length_eq_zero q1
                subst hnil
                by_cases h0 : news.length = 0
                · have hnil : news = [] := List.eq_nil_of_length_eq_zero h0
                  subst hnil
                  have hnv : newv = [] := List.eq_nil_of_length_eq_zero (by have := hsrc.size; simpa using this)
                  subst hnv
                  obtain ⟨r1, r2, r3⟩ := bump_row hs hid q2 (Nat.lt_succ_self ver)
                  refine ⟨.slice none 0 0, μ, w, ?_, .ref ⟨by simpa using hlt, fun v' s' r' e' h' => ?_⟩, r1, r2, r3⟩
                  · have hz' : (d1 matches .int _) = false := by
                      cases d1 with
                      | int k => exact absurd rfl (hd1 k)
                      | _ => rfl
                    have hrd := hsrc.read w rfl
                    have hln := hsrc.len w
                    simp only [List.length_nil] at hrd hln
                    simp [Builtin.append_, run_underlying hu, run_underlying hu1, hz', sizeOf, typeInfo, hi, hln, hrd]
                  · simp only [List.append_nil] at h'
                    rw [getElem?_set_eq' hlt] at h'; cases h'
                    exact ⟨Nat.le_refl _, fun _ => ⟨by simp, .inl ⟨rfl, q2, rfl⟩⟩⟩
                · exact grows none 0 [] rfl (by simp; omega) (fun w1 _ => by simp [Builtin.firstCells]) (by simp) (by simp) (by simp)
              · simp only [Nat.zero_mul, Nat.zero_add] at *
                obtain ⟨cur, T, lo, hi', hg, hm, hem, he1, he2, hfz⟩ : ∃ cur T lo hi', w.heap[g]? = some (.cells cur T (lo, hi')) ∧ cur.size = m ∧ es.length * it.size ≤ m ∧ (∀ (i : Nat) (cs : List V), es[i]? = some cs → cs.length = it.size) ∧
                    (∀ (i : Nat) (cs : List V) (j : Nat) (v : V), es[i]? = some cs → cs[j]? = some v → vrel μ st (qd D μ st w) w v (cur.getD (i * it.size + j) Go.undef)) ∧ unfz lo hi' m := by
                  rcases hs.row id _ _ false es hid with ⟨_, h2⟩ | ⟨g', m', cur, T, lo, hi', a1, a2, a3, a4, a5, a6, _, _, a8⟩
                  · rw [h2] at hμ; cases hμ
                  · rw [hμ] at a1
                    obtain ⟨rfl, rfl⟩ := Prod.mk.inj (Option.some.inj a1)
                    exact ⟨cur, T, lo, hi', a2, a3, a4, a5, a6, a8⟩
                by_cases hroom : es.length + news.length ≤ c
                · obtain ⟨w', cur', hr, hg', hs', hc', ho⟩ := run_app_room (P := P) (ty := ty) hu hi hu1 hd1 hsrc hg (by rw [hm]; exact unfz_ok hfz) hroom (by rw [hm]; exact hcsz)
                  obtain ⟨r1, r2, r3, _⟩ := write_row hs hid hμ ho (ver' := ver + 1) (es' := es ++ news) (Nat.le_succ _) (fun h => by omega) hg' (by rw [hs', hm])
                    (by rw [List.length_append]; exact Nat.le_trans (Nat.mul_le_mul_right _ hroom) hcsz) (append_each he1 hsrc.each) hfz
                    (fun i cs j v hi hj hkeep => by
                      have hjl := lt_of_get? hj
                      rw [hc' (i * it.size + j), hsrc.size]
                      by_cases hil : i < es.length
                      · rw [List.getElem?_append_left hil] at hi
                        have := he1 i cs hi
                        have hle : (i + 1) * it.size ≤ es.length * it.size := Nat.mul_le_mul_right _ hil
                        rw [Nat.add_mul] at hle
                        rw [if_neg (by omega)]
                        exact hkeep _ _ (he2 i cs j v hi hj)
                      · rw [List.getElem?_append_right (by omega)] at hi
                        have := hsrc.each _ cs hi
                        have hil2 := lt_of_get? hi
                        have hle : (i - es.length + 1) * it.size ≤ news.length * it.size := Nat.mul_le_mul_right _ hil2
                        rw [Nat.add_mul] at hle
                        have e1 : i * it.size = es.length * it.size + (i - es.length) * it.size := by rw [← Nat.add_mul]; congr 1; omega
                        rw [if_pos (by omega)]
                        have e2 : i * it.size + j - es.length * it.size = (i - es.length) * it.size + j := by omega
                        rw [e2]
                        exact hkeep _ _ (hsrc.rel _ cs j v hi hj))
                  refine ⟨_, _, _, hr, .ref ⟨by simpa using hlt, fun v' s' r' e' h' => ?_⟩, r1, r2, r3⟩
                  rw [getElem?_set_eq' hlt] at h'; cases h'
                  exact ⟨Nat.le_refl _, fun _ => ⟨by simp, .inr (.inl ⟨g, m, c, hμ, by simp, hroom, hcm, by simpa using hcsz⟩)⟩⟩
                · refine grows (some ⟨g, 0, none⟩) c (cur.toList.take (es.length * it.size)) rfl (by omega) (fun w1 hw1 => ?_) (by simp; omega) he1 (fun i cs j v hi hj => ?_)
                  · have hll : (cur.toList.take (es.length * it.size)).length = es.length * it.size := by simp; omega
                    have := run_loadCells_list (P := P) w1 ⟨g, 0, none⟩ (cur.toList.take (es.length * it.size)) (fun j v hj => by
                      rw [Addr.add_lit, show w1.cell? ⟨g, 0 + j, none⟩ = w.cell? ⟨g, 0 + j, none⟩ by simp [World.cell?, hw1], cell_of_row w g _ cur T (lo, hi') hg, Nat.zero_add]
                      rw [List.getElem?_take] at hj
                      split at hj
                      · simpa using hj
                      · cases hj)
                    rw [hll] at this
                    simpa [Builtin.firstCells] using this
                  · have hil := lt_of_get? hi
                    have hjl := lt_of_get? hj
                    have := he1 i cs hi
                    have hle : (i + 1) * it.size ≤ es.length * it.size := Nat.mul_le_mul_right _ hil
                    rw [Nat.add_mul] at hle
                    have hv := he2 i cs j v hi hj
                    rw [Array.getD_eq_getD_getElem?, ← Array.getElem?_toList] at hv
                    rw [List.getD, List.getElem?_take, if_pos (by omega)]
                    exact hv
              · omega
            · cases h
          · cases h
        | _ => simp at h
    · cases h
end
end Go.Proofs.YtdbmfnhbgacldaaDoor.Am
