/- Changes of a world that keep the relation: nothing old changes; a row is written in place; a row grows into a new block; a new row. -/
import Derived.Test.YtdbmfnhbgacldaaDoorAmA
namespace Go.Proofs.YtdbmfnhbgacldaaDoor.Am
set_option autoImplicit false

/-- nothing old has changed -/
structure Grow (w w' : World) : Prop where
  os : w'.os = w.os
  tape : w'.tape = w.tape
  output : w'.output = w.output
  size : w.heap.size ≤ w'.heap.size
  block : ∀ k, k < w.heap.size → w'.heap[k]? = w.heap[k]?
theorem Grow.refl (w : World) : Grow w w := ⟨rfl, rfl, rfl, Nat.le_refl _, fun _ _ => rfl⟩
theorem Grow.drew (w : World) : Grow w w.drew := ⟨rfl, rfl, rfl, Nat.le_refl _, fun _ _ => rfl⟩
theorem Grow.alloc (w : World) (o : Obj) : Grow w (w.alloc o) := ⟨rfl, rfl, rfl, by simp, fun k hk => Go.RowKit.Below.heap_alloc w o k hk⟩
theorem Grow.trans {a b c : World} (h : Grow a b) (k : Grow b c) : Grow a c :=
  ⟨k.os.trans h.os, k.tape.trans h.tape, k.output.trans h.output, Nat.le_trans h.size k.size, fun i hi => (k.block i (Nat.lt_of_lt_of_le hi h.size)).trans (h.block i hi)⟩

theorem row_lt {w : World} {g : Nat} {o : Obj} (h : w.heap[g]? = some o) : g < w.heap.size := (Array.getElem?_eq_some_iff.1 h).1

theorem live_lt {D : Nat → Prop} {μ : Mu} {st : List Ob} {w : World} (hs : srel D μ st w) {g : Nat} (h : live μ st g) : g < w.heap.size := by
  obtain ⟨id, ver, sz, es, m, h1, h2⟩ := h
  rcases hs.row id ver sz false es h1 with ⟨_, h3⟩ | ⟨g', m', cur, T, lo, hi, h3, h4, _⟩
  · rw [h3] at h2; cases h2
  · rw [h3] at h2
    obtain ⟨rfl, rfl⟩ := Prod.mk.inj (Option.some.inj h2)
    exact row_lt h4

section grow
variable {D : Nat → Prop} {μ : Mu} {st : List Ob} {w w' : World}
theorem Grow.prot (hg : Grow w w') : ∀ g, qd D μ st w g → qd D μ st w' g ∧ w'.heap[g]? = w.heap[g]? :=
  fun g h => ⟨⟨⟨Nat.lt_of_lt_of_le h.1.1 hg.size, h.1.2⟩, h.2⟩, hg.block g h.1.1⟩
theorem Grow.fr (hg : Grow w w') : Fr μ st w μ st w' := ⟨hg.os, hg.tape, hg.output, hg.size, fun g h => ⟨hg.block g h.1, h.2⟩⟩
theorem Grow.vrel (hs : srel D μ st w) (hg : Grow w w') {x : V} {y : Value} (h : vrel μ st (qd D μ st w) w x y) : Am.vrel μ st (qd D μ st w') w' x y :=
  h.keep (Ev.refl (Nat.le_refl _)) hg.prot
theorem Grow.vrels (hs : srel D μ st w) (hg : Grow w w') {x : List V} {y : Array Value} (h : vrels μ st (qd D μ st w) w x y) : Am.vrels μ st (qd D μ st w') w' x y :=
  ⟨h.1, fun j v hj => hg.vrel hs (h.2 j v hj)⟩
theorem Grow.srel (hs : srel D μ st w) (hg : Grow w w') : Am.srel D μ st w' := by
  refine ⟨fun g hgs => hs.dom g (Nat.le_trans hg.size hgs), fun id ver sz ro es h => ?_, hs.inj⟩
  rcases hs.row id ver sz ro es h with h1 | ⟨g, m, cur, T, lo, hi, h1, h2, h3, h4, h5, h6, h7, h8⟩
  · exact .inl h1
  · exact .inr ⟨g, m, cur, T, lo, hi, h1, (hg.block g (row_lt h2)).trans h2, h3, h4, h5, fun i cs j v a b => hg.vrel hs (h6 i cs j v a b), fun hr => (hg.prot g (h7 hr)).1, h8⟩
end grow

theorem getElem?_set_ne' {α : Type} {l : List α} {i j : Nat} {a : α} (h : i ≠ j) : (l.set i a)[j]? = l[j]? := by simp [h]
theorem getElem?_set_eq' {α : Type} {l : List α} {i : Nat} {a : α} (h : i < l.length) : (l.set i a)[i]? = some a := by simp [h]
theorem lt_of_get? {α : Type} {l : List α} {i : Nat} {a : α} (h : l[i]? = some a) : i < l.length := (List.getElem?_eq_some_iff.1 h).1

/-- one block alone has changed -/
structure Only (g : Nat) (w w' : World) : Prop where
  os : w'.os = w.os
  tape : w'.tape = w.tape
  output : w'.output = w.output
  size : w'.heap.size = w.heap.size
  block : ∀ k, k ≠ g → w'.heap[k]? = w.heap[k]?
theorem Only.trans {g : Nat} {a b c : World} (h : Only g a b) (k : Only g b c) : Only g a c :=
  ⟨k.os.trans h.os, k.tape.trans h.tape, k.output.trans h.output, k.size.trans h.size, fun i hi => (k.block i hi).trans (h.block i hi)⟩
theorem Only.refl (g : Nat) (w : World) : Only g w w := ⟨rfl, rfl, rfl, rfl, fun _ _ => rfl⟩

section write
variable {D : Nat → Prop} {μ : Mu} {st : List Ob} {w w' : World} {id ver sz : Nat} {es : List (List V)} {g m : Nat}
/-- a row that is ours is written in its block, and has other elements: its number of elements is the same, or its version is a higher one -/
theorem write_row (hs : srel D μ st w) (hid : st[id]? = some (.row ver sz false es)) (hμ : μ id = some (g, m)) (ho : Only g w w') {ver' : Nat} {es' : List (List V)} (hv : ver ≤ ver') (hl : ver = ver' → es.length = es'.length)
    {cur : Array Value} {T : TypeId} {lo hi : Nat} (hg : w'.heap[g]? = some (.cells cur T (lo, hi))) (hm : cur.size = m) (hem : es'.length * sz ≤ m) (hsz : ∀ (i : Nat) (cs : List V), es'[i]? = some cs → cs.length = sz)
    (hfz : unfz lo hi m)
    (hcells : ∀ (i : Nat) (cs : List V) (j : Nat) (v : V), es'[i]? = some cs → cs[j]? = some v →
      (∀ x y, vrel μ st (qd D μ st w) w x y → vrel μ (st.set id (.row ver' sz false es')) (qd D μ (st.set id (.row ver' sz false es')) w') w' x y) →
      vrel μ (st.set id (.row ver' sz false es')) (qd D μ (st.set id (.row ver' sz false es')) w') w' v (cur.getD (i * sz + j) Go.undef)) :
    srel D μ (st.set id (.row ver' sz false es')) w' ∧ Fr μ st w μ (st.set id (.row ver' sz false es')) w' ∧ Ev st.length μ st μ (st.set id (.row ver' sz false es')) ∧
      (∀ x y, vrel μ st (qd D μ st w) w x y → vrel μ (st.set id (.row ver' sz false es')) (qd D μ (st.set id (.row ver' sz false es')) w') w' x y) := by
  have hlt := lt_of_get? hid
  have hlive : live μ st g := ⟨id, ver, sz, es, m, hid, hμ⟩
  have live' : ∀ k, live μ (st.set id (.row ver' sz false es')) k ↔ live μ st k := by
    intro k
    constructor
    · rintro ⟨i, v, s, e, m', h1, h2⟩
      by_cases hi : id = i
      · subst hi
        rw [hμ] at h2
        obtain ⟨rfl, rfl⟩ := Prod.mk.inj (Option.some.inj h2)
        exact hlive
      · rw [getElem?_set_ne' hi] at h1
        exact ⟨i, v, s, e, m', h1, h2⟩
    · rintro ⟨i, v, s, e, m', h1, h2⟩
      by_cases hi : id = i
      · subst hi
        exact ⟨id, ver', sz, es', m', getElem?_set_eq' hlt, h2⟩
      · exact ⟨i, v, s, e, m', by rw [getElem?_set_ne' hi]; exact h1, h2⟩
  have hprot0 : ∀ k, prot μ st w k → prot μ (st.set id (.row ver' sz false es')) w' k ∧ w'.heap[k]? = w.heap[k]? := by
    intro k hk
    refine ⟨⟨by rw [ho.size]; exact hk.1, fun h => hk.2 ((live' k).1 h)⟩, ho.block k (fun e => hk.2 (e ▸ hlive))⟩
  have hprot : ∀ k, qd D μ st w k → qd D μ (st.set id (.row ver' sz false es')) w' k ∧ w'.heap[k]? = w.heap[k]? := fun k hk => ⟨⟨(hprot0 k hk.1).1, hk.2⟩, (hprot0 k hk.1).2⟩
  have hD : D g := by
    rcases hs.row id ver sz false es hid with ⟨_, h3⟩ | ⟨g', m', cur, T, lo, hi, h3, _, _, _, _, _, _, h4, _⟩
    · rw [h3] at hμ; cases hμ
    · rw [h3] at hμ
      obtain ⟨rfl, rfl⟩ := Prod.mk.inj (Option.some.inj hμ)
      exact h4
  have hev : Ev st.length μ st μ (st.set id (.row ver' sz false es')) := by
    refine ⟨by simp, fun i _ v s r e h => ?_⟩
    by_cases hi : id = i
    · subst hi
      rw [getElem?_set_eq' hlt] at h
      obtain ⟨rfl, rfl, rfl, rfl⟩ := Ob.row.inj (Option.some.inj h)
      exact ⟨ver, false, es, hid, hv, fun h => h, fun h => ⟨hl h, rfl⟩⟩
    · rw [getElem?_set_ne' hi] at h
      exact ⟨v, r, e, h, Nat.le_refl _, fun h => h, fun _ => ⟨rfl, rfl⟩⟩
  have hkeep : ∀ x y, vrel μ st (qd D μ st w) w x y → vrel μ (st.set id (.row ver' sz false es')) (qd D μ (st.set id (.row ver' sz false es')) w') w' x y :=
    fun x y h => h.keep hev hprot
  refine ⟨⟨fun k hk => hs.dom k (by rw [← ho.size]; exact hk), fun i v s r e h => ?_, fun i j v1 s1 e1 v2 s2 e2 k m1 m2 h1 h2 h3 h4 => ?_⟩, ⟨ho.os, ho.tape, ho.output, Nat.le_of_eq ho.size.symm, fun k hk => ⟨(hprot0 k hk).2, fun h => hk.2 ((live' k).1 h)⟩⟩, hev, hkeep⟩
  · by_cases hi' : id = i
    · subst hi'
      rw [getElem?_set_eq' hlt] at h
      obtain ⟨rfl, rfl, rfl, rfl⟩ := Ob.row.inj (Option.some.inj h)
      exact .inr ⟨g, m, cur, T, lo, hi, hμ, hg, hm, hem, hsz, fun i cs j v a b => hcells i cs j v a b hkeep, (fun h => nomatch h), hD, hfz⟩
    · rw [getElem?_set_ne' hi'] at h
      rcases hs.row i v s r e h with h1 | ⟨g', m', cur', T', lo', hi'', h1, h2, h3, h4, h5, h6, h7, h8⟩
      · exact .inl h1
      · have hne : g' ≠ g := by
          rintro rfl
          cases r with
          | true => exact (h7 rfl).1.2 hlive
          | false => exact hi' (hs.inj id i ver sz es v s e g' m m' hid h hμ h1)
        exact .inr ⟨g', m', cur', T', lo', hi'', h1, (ho.block g' hne).trans h2, h3, h4, h5, fun i cs j v a b => hkeep _ _ (h6 i cs j v a b), fun hr => (hprot g' (h7 hr)).1, h8⟩
  · have back : ∀ (i v s : Nat) (e : List (List V)), (st.set id (.row ver' sz false es'))[i]? = some (.row v s false e) → ∃ v s e, st[i]? = some (.row v s false e) := by
      intro i v s e h
      by_cases hi : id = i
      · subst hi; exact ⟨_, _, _, hid⟩
      · rw [getElem?_set_ne' hi] at h; exact ⟨_, _, _, h⟩
    obtain ⟨a1, a2, a3, h1'⟩ := back _ _ _ _ h1
    obtain ⟨b1, b2, b3, h2'⟩ := back _ _ _ _ h2
    exact hs.inj i j a1 a2 a3 b1 b2 b3 k m1 m2 h1' h2' h3 h4
end write

/-- μ with one row's block told anew -/
def upd (μ : Mu) (id : Nat) (x : Option (Nat × Nat)) : Mu := fun i => if i = id then x else μ i
theorem upd_same (μ : Mu) (id : Nat) (x : Option (Nat × Nat)) : upd μ id x id = x := by simp [upd]
theorem upd_ne (μ : Mu) {id i : Nat} (x : Option (Nat × Nat)) (h : i ≠ id) : upd μ id x i = μ i := by simp [upd, h]

section fresh
variable {D : Nat → Prop} {μ : Mu} {st : List Ob} {w w' : World} {id ver sz : Nat} {es : List (List V)}
/-- a row that is ours goes on in a new block (or gets its first one), with a higher version -/
theorem move_row (hs : srel D μ st w) (hid : st[id]? = some (.row ver sz false es)) (hgr : Grow w w') {ver' : Nat} {es' : List (List V)} (hv : ver < ver') {g m : Nat} (hnew : w.heap.size ≤ g)
    {cur : Array Value} {T : TypeId} {lo hi : Nat} (hg : w'.heap[g]? = some (.cells cur T (lo, hi))) (hm : cur.size = m) (hem : es'.length * sz ≤ m) (hsz : ∀ (i : Nat) (cs : List V), es'[i]? = some cs → cs.length = sz)
    (hfz : unfz lo hi m)
    (hcells : ∀ (i : Nat) (cs : List V) (j : Nat) (v : V), es'[i]? = some cs → cs[j]? = some v →
      (∀ x y, vrel μ st (qd D μ st w) w x y → vrel (upd μ id (some (g, m))) (st.set id (.row ver' sz false es')) (qd D (upd μ id (some (g, m))) (st.set id (.row ver' sz false es')) w') w' x y) →
      vrel (upd μ id (some (g, m))) (st.set id (.row ver' sz false es')) (qd D (upd μ id (some (g, m))) (st.set id (.row ver' sz false es')) w') w' v (cur.getD (i * sz + j) Go.undef)) :
    srel D (upd μ id (some (g, m))) (st.set id (.row ver' sz false es')) w' ∧ Fr μ st w (upd μ id (some (g, m))) (st.set id (.row ver' sz false es')) w' ∧ Ev st.length μ st (upd μ id (some (g, m))) (st.set id (.row ver' sz false es')) ∧
      (∀ x y, vrel μ st (qd D μ st w) w x y → vrel (upd μ id (some (g, m))) (st.set id (.row ver' sz false es')) (qd D (upd μ id (some (g, m))) (st.set id (.row ver' sz false es')) w') w' x y) := by
  have hlt := lt_of_get? hid
  have live' : ∀ k, k < w.heap.size → live (upd μ id (some (g, m))) (st.set id (.row ver' sz false es')) k → live μ st k := by
    rintro k hk ⟨i, v, s, e, m', h1, h2⟩
    by_cases hi : id = i
    · subst hi
      rw [upd_same] at h2
      obtain ⟨rfl, rfl⟩ := Prod.mk.inj (Option.some.inj h2)
      omega
    · rw [getElem?_set_ne' hi] at h1
      rw [upd_ne _ _ (Ne.symm hi)] at h2
      exact ⟨i, v, s, e, m', h1, h2⟩
  have hprot0 : ∀ k, prot μ st w k → prot (upd μ id (some (g, m))) (st.set id (.row ver' sz false es')) w' k ∧ w'.heap[k]? = w.heap[k]? := by
    intro k hk
    exact ⟨⟨Nat.lt_of_lt_of_le hk.1 hgr.size, fun h => hk.2 (live' k hk.1 h)⟩, hgr.block k hk.1⟩
  have hprot : ∀ k, qd D μ st w k → qd D (upd μ id (some (g, m))) (st.set id (.row ver' sz false es')) w' k ∧ w'.heap[k]? = w.heap[k]? := fun k hk => ⟨⟨(hprot0 k hk.1).1, hk.2⟩, (hprot0 k hk.1).2⟩
  have hev : Ev st.length μ st (upd μ id (some (g, m))) (st.set id (.row ver' sz false es')) := by
    refine ⟨by simp, fun i _ v s r e h => ?_⟩
    by_cases hi : id = i
    · subst hi
      rw [getElem?_set_eq' hlt] at h
      obtain ⟨rfl, rfl, rfl, rfl⟩ := Ob.row.inj (Option.some.inj h)
      exact ⟨ver, false, es, hid, Nat.le_of_lt hv, fun h => h, fun h => by omega⟩
    · rw [getElem?_set_ne' hi] at h
      exact ⟨v, r, e, h, Nat.le_refl _, fun h => h, fun _ => ⟨rfl, upd_ne _ _ (Ne.symm hi)⟩⟩
  have hkeep : ∀ x y, vrel μ st (qd D μ st w) w x y → vrel (upd μ id (some (g, m))) (st.set id (.row ver' sz false es')) (qd D (upd μ id (some (g, m))) (st.set id (.row ver' sz false es')) w') w' x y :=
    fun x y h => h.keep hev hprot
  refine ⟨⟨fun k hk => hs.dom k (Nat.le_trans hgr.size hk), fun i v s r e h => ?_, fun i j v1 s1 e1 v2 s2 e2 k m1 m2 h1 h2 h3 h4 => ?_⟩, ⟨hgr.os, hgr.tape, hgr.output, hgr.size, fun k hk => ⟨(hprot0 k hk).2, (hprot0 k hk).1.2⟩⟩, hev, hkeep⟩
  · by_cases hi' : id = i
    · subst hi'
      rw [getElem?_set_eq' hlt] at h
      obtain ⟨rfl, rfl, rfl, rfl⟩ := Ob.row.inj (Option.some.inj h)
      exact .inr ⟨g, m, cur, T, lo, hi, upd_same _ _ _, hg, hm, hem, hsz, fun i cs j v a b => hcells i cs j v a b hkeep, (fun h => nomatch h), hs.dom g hnew, hfz⟩
    · rw [getElem?_set_ne' hi'] at h
      rcases hs.row i v s r e h with ⟨h1, h2⟩ | ⟨g', m', cur', T', lo', hi'', h1, h2, h3, h4, h5, h6, h7, h8⟩
      · exact .inl ⟨h1, by rw [upd_ne _ _ (Ne.symm hi')]; exact h2⟩
      · exact .inr ⟨g', m', cur', T', lo', hi'', by rw [upd_ne _ _ (Ne.symm hi')]; exact h1, (hgr.block g' (row_lt h2)).trans h2, h3, h4, h5, fun i cs j v a b => hkeep _ _ (h6 i cs j v a b), fun hr => (hprot g' (h7 hr)).1, h8⟩
  · by_cases hi : id = i
    · by_cases hj : id = j
      · omega
      · subst hi
        rw [upd_same] at h3
        obtain ⟨rfl, rfl⟩ := Prod.mk.inj (Option.some.inj h3)
        rw [getElem?_set_ne' hj] at h2
        rw [upd_ne _ _ (Ne.symm hj)] at h4
        have := live_lt hs ⟨j, v2, s2, e2, m2, h2, h4⟩
        omega
    · rw [getElem?_set_ne' hi] at h1
      rw [upd_ne _ _ (Ne.symm hi)] at h3
      by_cases hj : id = j
      · subst hj
        rw [upd_same] at h4
        obtain ⟨rfl, rfl⟩ := Prod.mk.inj (Option.some.inj h4)
        have := live_lt hs ⟨i, v1, s1, e1, m1, h1, h3⟩
        omega
      · rw [getElem?_set_ne' hj] at h2
        rw [upd_ne _ _ (Ne.symm hj)] at h4
        exact hs.inj i j v1 s1 e1 v2 s2 e2 k m1 m2 h1 h2 h3 h4

/-- a new row, without a block as long as it has no element, or in a new block -/
theorem new_row (vr : Nat) (hs : srel D μ st w) (hgr : Grow w w') {x : Option (Nat × Nat)} {sz' : Nat} {es' : List (List V)}
    (hx : (es' = [] ∧ x = none) ∨ ∃ g m cur T lo hi, x = some (g, m) ∧ w.heap.size ≤ g ∧ w'.heap[g]? = some (.cells cur T (lo, hi)) ∧ cur.size = m ∧ es'.length * sz' ≤ m ∧ (∀ (i : Nat) (cs : List V), es'[i]? = some cs → cs.length = sz') ∧
      unfz lo hi m ∧
      ∀ (i : Nat) (cs : List V) (j : Nat) (v : V), es'[i]? = some cs → cs[j]? = some v → vrel μ st (qd D μ st w) w v (cur.getD (i * sz' + j) Go.undef)) :
    srel D (upd μ st.length x) (st ++ [.row vr sz' false es']) w' ∧ Fr μ st w (upd μ st.length x) (st ++ [.row vr sz' false es']) w' ∧ Ev st.length μ st (upd μ st.length x) (st ++ [.row vr sz' false es']) ∧
      (∀ a y, vrel μ st (qd D μ st w) w a y → vrel (upd μ st.length x) (st ++ [.row vr sz' false es']) (qd D (upd μ st.length x) (st ++ [.row vr sz' false es']) w') w' a y) := by
  have hnew : (st ++ [Ob.row vr sz' false es'])[st.length]? = some (.row vr sz' false es') := by simp
  have hold : ∀ i, i < st.length → (st ++ [Ob.row vr sz' false es'])[i]? = st[i]? := fun i hi => List.getElem?_append_left hi
  have hcase : ∀ (i : Nat) (o : Ob), (st ++ [Ob.row vr sz' false es'])[i]? = some o → (i = st.length ∧ o = .row vr sz' false es') ∨ (i < st.length ∧ st[i]? = some o) := by
    intro i o h
    by_cases hi : i < st.length
    · exact .inr ⟨hi, by rw [← hold i hi]; exact h⟩
    · have hl := lt_of_get? h
      simp at hl
      have : i = st.length := by omega
      subst this
      rw [hnew] at h
      exact .inl ⟨rfl, (Option.some.inj h).symm⟩
  have hgx : ∀ g m, x = some (g, m) → w.heap.size ≤ g := by
    intro g m hx'
    rcases hx with ⟨_, h⟩ | ⟨g', m', _, _, _, _, h, h', _⟩
    · rw [h] at hx'; cases hx'
    · rw [h] at hx'
      obtain ⟨rfl, rfl⟩ := Prod.mk.inj (Option.some.inj hx')
      exact h'
  have live' : ∀ k, k < w.heap.size → live (upd μ st.length x) (st ++ [.row vr sz' false es']) k → live μ st k := by
    rintro k hk ⟨i, v, s, e, m', h1, h2⟩
    rcases hcase i _ h1 with ⟨rfl, _⟩ | ⟨hi, h3⟩
    · rw [upd_same] at h2
      have := hgx _ _ h2
      omega
    · rw [upd_ne _ _ (by omega)] at h2
      exact ⟨i, v, s, e, m', h3, h2⟩
  have hprot0 : ∀ k, prot μ st w k → prot (upd μ st.length x) (st ++ [.row vr sz' false es']) w' k ∧ w'.heap[k]? = w.heap[k]? :=
    fun k hk => ⟨⟨Nat.lt_of_lt_of_le hk.1 hgr.size, fun h => hk.2 (live' k hk.1 h)⟩, hgr.block k hk.1⟩
  have hprot : ∀ k, qd D μ st w k → qd D (upd μ st.length x) (st ++ [.row vr sz' false es']) w' k ∧ w'.heap[k]? = w.heap[k]? := fun k hk => ⟨⟨(hprot0 k hk.1).1, hk.2⟩, (hprot0 k hk.1).2⟩
  have hev : Ev st.length μ st (upd μ st.length x) (st ++ [.row vr sz' false es']) := by
    refine ⟨by simp, fun i hi v s r e h => ?_⟩
    rw [hold i hi] at h
    exact ⟨v, r, e, h, Nat.le_refl _, fun h => h, fun _ => ⟨rfl, upd_ne _ _ (by omega)⟩⟩
  have hkeep : ∀ a y, vrel μ st (qd D μ st w) w a y → vrel (upd μ st.length x) (st ++ [.row vr sz' false es']) (qd D (upd μ st.length x) (st ++ [.row vr sz' false es']) w') w' a y :=
    fun a y h => h.keep hev hprot
  refine ⟨⟨fun k hk => hs.dom k (Nat.le_trans hgr.size hk), fun i v s r e h => ?_, fun i j v1 s1 e1 v2 s2 e2 k m1 m2 h1 h2 h3 h4 => ?_⟩, ⟨hgr.os, hgr.tape, hgr.output, hgr.size, fun k hk => ⟨(hprot0 k hk).2, (hprot0 k hk).1.2⟩⟩, hev, hkeep⟩
  · rcases hcase i _ h with ⟨rfl, he⟩ | ⟨hi, h'⟩
    · obtain ⟨rfl, rfl, rfl, rfl⟩ := Ob.row.inj he
      rcases hx with ⟨h1, h2⟩ | ⟨g, m, cur, T, lo, hi, h1, h2, h3, h4, h5, h6, h7, h8⟩
      · exact .inl ⟨h1, by rw [upd_same]; exact h2⟩
      · exact .inr ⟨g, m, cur, T, lo, hi, by rw [upd_same]; exact h1, h3, h4, h5, h6, fun i cs j v a b => hkeep _ _ (h8 i cs j v a b), (fun h => nomatch h), hs.dom g h2, h7⟩
    · rcases hs.row i v s r e h' with ⟨h1, h2⟩ | ⟨g', m', cur', T', lo', hi'', h1, h2, h3, h4, h5, h6, h7, h8⟩
      · exact .inl ⟨h1, by rw [upd_ne _ _ (by omega)]; exact h2⟩
      · exact .inr ⟨g', m', cur', T', lo', hi'', by rw [upd_ne _ _ (by omega)]; exact h1, (hgr.block g' (row_lt h2)).trans h2, h3, h4, h5, fun i cs j v a b => hkeep _ _ (h6 i cs j v a b), fun hr => (hprot g' (h7 hr)).1, h8⟩
  · rcases hcase i _ h1 with ⟨rfl, he⟩ | ⟨hi, h1'⟩
    · rw [upd_same] at h3
      rcases hcase j _ h2 with ⟨rfl, _⟩ | ⟨hj, h2'⟩
      · rfl
      · rw [upd_ne _ _ (by omega)] at h4
        have := live_lt hs ⟨j, v2, s2, e2, m2, h2', h4⟩
        have := hgx _ _ h3
        omega
    · rw [upd_ne _ _ (by omega)] at h3
      rcases hcase j _ h2 with ⟨rfl, _⟩ | ⟨hj, h2'⟩
      · rw [upd_same] at h4
        have := live_lt hs ⟨i, v1, s1, e1, m1, h1', h3⟩
        have := hgx _ _ h4
        omega
      · rw [upd_ne _ _ (by omega)] at h4
        exact hs.inj i j v1 s1 e1 v2 s2 e2 k m1 m2 h1' h2' h3 h4
end fresh

/-- cells are written, one behind the other -/
theorem run_stores (P : Program) (g : Nat) (T : TypeId) (lo hi : Nat) : ∀ (vs : List Value) (o i : Nat) (cur : Array Value) (w : World), w.heap[g]? = some (.cells cur T (lo, hi)) → o + i + vs.length ≤ cur.size →
    (∀ k, k < cur.size → ¬ (lo ≤ k ∧ k < hi)) → (∀ v ∈ vs, v.oneCell' = true) →
    ∃ w' cur', (storeCells ⟨g, o, none⟩ vs i).run P w = .ok () w' ∧ w'.heap[g]? = some (.cells cur' T (lo, hi)) ∧ cur'.size = cur.size ∧
      (∀ k, cur'.getD k Go.undef = if o + i ≤ k ∧ k < o + i + vs.length then vs.getD (k - (o + i)) Go.undef else cur.getD k Go.undef) ∧ Only g w w'
  | [], o, i, cur, w, hg, _, _, _ => ⟨w, cur, rfl, hg, rfl, fun k => by rw [if_neg (by simp only [List.length_nil]; omega)], Only.refl g w⟩
  | v :: rest, o, i, cur, w, hg, hl, hfz, h1 => by
    have hi' : o + i < cur.size := by simp at hl; omega
    have hadd : (⟨g, o, none⟩ : Addr).add i = ⟨g, o + i, none⟩ := Addr.add_lit g o i
    have hc : w.cell? ⟨g, o + i, none⟩ = some cur[o + i] := by rw [cell_of_row w g (o + i) cur T (lo, hi) hg]; exact Array.getElem?_eq_getElem hi'
    have hf : w.frozen? ⟨g, o + i, none⟩ = false := by
      simp only [World.frozen?, hg]
      have hz := hfz (o + i) hi'
      simp only [Bool.and_eq_false_iff, decide_eq_false_iff_not]
      omega
    have hg1 : (w.setCell ⟨g, o + i, none⟩ v).heap[g]? = some (.cells (cur.setIfInBounds (o + i) v) T (lo, hi)) := by
      simp [World.setCell, Array.getElem?_modify, hg]
    obtain ⟨w', cur', hr, hg', hs', hc', ho⟩ := run_stores P g T lo hi rest o (i + 1) (cur.setIfInBounds (o + i) v) _ hg1 (by simp at hl ⊢; omega) (by simpa using hfz) (fun u hu => h1 u (List.mem_cons_of_mem _ hu))
    refine ⟨w', cur', ?_, hg', by simpa using hs', fun k => ?_, Only.trans (b := w.setCell ⟨g, o + i, none⟩ v) ⟨rfl, rfl, rfl, by simp, fun k hk => Go.RowKit.Below.heap_setCell w ⟨g, o + i, none⟩ v k hk⟩ ho⟩
    · simp only [storeCells, Sem.run_bind, hadd]
      rw [run_store P w ⟨g, o + i, none⟩ v .plain (h1 v List.mem_cons_self)]
      simp only [hc, hf, Bool.false_eq_true, if_false, Result.andThen_ok]
      exact hr
    · rw [hc' k]
      by_cases hk : k = o + i
      · subst hk
        rw [if_neg (by omega), if_pos (by simp only [List.length_cons]; omega)]
        simp [Array.getD_eq_getD_getElem?, hi']
      · by_cases hk2 : o + i ≤ k ∧ k < o + i + (v :: rest).length
        · rw [if_pos (by simp at hk2; omega), if_pos hk2]
          obtain ⟨d, rfl⟩ : ∃ d, k = o + i + (d + 1) := ⟨k - (o + i) - 1, by omega⟩
          have e1 : o + i + (d + 1) - (o + (i + 1)) = d := by omega
          have e2 : o + i + (d + 1) - (o + i) = d + 1 := by omega
          rw [e1, e2]; rfl
        · rw [if_neg (by simp at hk2 ⊢; omega), if_neg hk2]
          simp only [Array.getD_eq_getD_getElem?, Array.getElem?_setIfInBounds]
          rw [if_neg (by omega)]
end Go.Proofs.YtdbmfnhbgacldaaDoor.Am
