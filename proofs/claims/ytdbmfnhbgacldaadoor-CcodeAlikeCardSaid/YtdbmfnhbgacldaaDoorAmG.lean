/- Operations of the model on abstract states: append, copy's source, lengths. -/
import Derived.Test.YtdbmfnhbgacldaaDoorAmF
namespace Go.Proofs.YtdbmfnhbgacldaaDoor.Am
set_option autoImplicit false
set_option linter.unusedVariables false
set_option linter.unusedSimpArgs false

def byteI (b : UInt8) : List I := [.int .u8 b.toNat]
def bytesI (l : List UInt8) : List (List I) := l.map byteI
def lift (es : List (List I)) : List (List V) := es.map (List.map .i)

/-- the elements that a slice or a string has -/
def srcA (st : List Ob) (sz : Nat) : V → Option (Prop × List (List V))
  | .i (.sl es) => some (∀ cs ∈ es, cs.length = sz, lift es)
  | .nils => some (True, [])
  | .i (.str s) => some (sz = 1, lift (bytesI s.data.toList))
  | .ref id ver off len => match st[id]? with
    | some (.row ver' sz' _ es) => if ver = ver' ∧ sz' = sz then some (∀ cs ∈ (es.drop off).take len, knownAll st cs = true, (es.drop off).take len) else none
    | _ => none
  | _ => none

section
variable {P : Program} {D : Nat → Prop} {μ : Mu} {st : List Ob} {w : World}

/-- what an append reads of its second operand -/
structure Src (P : Program) (D : Nat → Prop) (μ : Mu) (st : List Ob) (w : World) (sz : Nat) (es : List (List V)) (x' : Value) (news : List Value) : Prop where
  len : ∀ w1 : World, (Builtin.lenOf x').run P w1 = .ok es.length w1
  read : ∀ w1 : World, w1.heap = w.heap → (Builtin.firstCells sz es.length x').run P w1 = .ok news.toArray w1
  size : news.length = es.length * sz
  each : ∀ (i : Nat) (cs : List V), es[i]? = some cs → cs.length = sz
  rel : ∀ (i : Nat) (cs : List V) (j : Nat) (v : V), es[i]? = some cs → cs[j]? = some v → vrel μ st (qd D μ st w) w v (news.getD (i * sz + j) Go.undef)
  one : ∀ u ∈ news, u.oneCell' = true

theorem row_index {n sz k : Nat} (hk : k < n * sz) : k / sz < n ∧ k % sz < sz ∧ k / sz * sz + k % sz = k := by
  have hsz : 0 < sz := Nat.pos_of_ne_zero (fun h => by subst h; simp at hk)
  exact ⟨Nat.div_lt_of_lt_mul (by rwa [Nat.mul_comm]), Nat.mod_lt _ hsz, Nat.div_add_mod' k sz⟩

theorem cells_at {es : List (List V)} {n sz k : Nat} (hn : es.length = n) (hs : ∀ (i : Nat) (cs : List V), es[i]? = some cs → cs.length = sz) (hk : k < n * sz) : ∃ cs v, es[k / sz]? = some cs ∧ cs[k % sz]? = some v ∧ k / sz * sz + k % sz = k := by
  obtain ⟨h1, h2, h3⟩ := row_index hk
  have hi : k / sz < es.length := by omega
  have hc := List.getElem?_eq_getElem hi
  have := hs _ _ hc
  exact ⟨_, _, hc, List.getElem?_eq_getElem (by omega), h3⟩

theorem srcA_ok (hs : srel D μ st w) {sz : Nat} {x : V} {x' : Value} {p : Prop} {es : List (List V)} (h : srcA st sz x = some (p, es)) (hp : p) (hx : vrel μ st (qd D μ st w) w x x') : ∃ news, Src P D μ st w sz es x' news := by
  cases hx with
  | @i x _ hx =>
    cases hx with
    | sl0 a c =>
      simp only [srcA, Option.some.injEq, Prod.mk.injEq] at h
      obtain ⟨rfl, rfl⟩ := h
      refine ⟨[], fun w1 => rfl, fun w1 _ => ?_, by simp [lift], by simp [lift], by simp [lift], by simp⟩
      cases a <;> simp [Builtin.firstCells, loadCells, loadCellsFrom, lift]
    | sl es0 sz0 g off c xs hQ hc hz hw hr =>
      simp only [srcA, Option.some.injEq, Prod.mk.injEq] at h
      obtain ⟨rfl, rfl⟩ := h
      have hz' : ∀ (i : Nat) (cs : List I), es0[i]? = some cs → cs.length = sz := fun i cs hi => hp cs (List.mem_of_getElem? hi)
      have hszeq : ∀ (i : Nat) (cs : List I), es0[i]? = some cs → sz0 = sz := fun i cs hi => (hz i cs hi).symm.trans (hz' i cs hi)
      have hlift : ∀ (i : Nat) (cs : List V), (lift es0)[i]? = some cs → ∃ cs0, es0[i]? = some cs0 ∧ cs = cs0.map .i := by
        intro i cs hi
        simp only [lift, List.getElem?_map, Option.map_eq_some_iff] at hi
        obtain ⟨cs0, h1, h2⟩ := hi
        exact ⟨cs0, h1, h2.symm⟩
      have hcell : ∀ k, k < es0.length * sz → w.cell? ⟨g, off + k, none⟩ = some (xs (k / sz) (k % sz)) ∧ (xs (k / sz) (k % sz)).oneCell' = true := by
        intro k hk
        obtain ⟨h1, h2, h3⟩ := row_index hk
        have hi := List.getElem?_eq_getElem h1
        have hl := hz' _ _ hi
        have hj := List.getElem?_eq_getElem (l := es0[k / sz]) (i := k % sz) (by omega)
        have e0 := hszeq _ _ hi
        subst e0
        have := hw _ _ _ _ hi hj
        rw [h3] at this
        exact ⟨this, (hr _ _ _ _ hi hj).one⟩
      refine ⟨(List.range (es0.length * sz)).map fun k => xs (k / sz) (k % sz), fun w1 => by simp [Builtin.lenOf, lift], fun w1 hw1 => ?_, by simp [lift], fun i cs hi => ?_, fun i cs j v hi hj => ?_, fun u hu => ?_⟩
      · have := run_loadCells (P := P) w1 ⟨g, off, none⟩ (es0.length * sz) (fun k => xs (k / sz) (k % sz)) (fun k hk => by
          rw [Addr.add_lit]
          rw [show w1.cell? ⟨g, off + k, none⟩ = w.cell? ⟨g, off + k, none⟩ by simp [World.cell?, hw1]]
          exact (hcell k hk).1)
        simpa [Builtin.firstCells, lift] using this
      · obtain ⟨cs0, h1, rfl⟩ := hlift i cs hi
        simpa using hz' i cs0 h1
      · obtain ⟨cs0, h1, rfl⟩ := hlift i cs hi
        simp only [List.getElem?_map, Option.map_eq_some_iff] at hj
        obtain ⟨v0, h2, rfl⟩ := hj
        have hjl := lt_of_get? h2
        have hil := lt_of_get? h1
        have hl := hz' _ _ h1
        have hlt : i * sz + j < es0.length * sz := by
          have : (i + 1) * sz ≤ es0.length * sz := Nat.mul_le_mul_right _ hil
          rw [Nat.add_mul] at this; omega
        have e1 : (i * sz + j) / sz = i := by rw [Nat.mul_comm, Nat.mul_add_div (by omega), Nat.div_eq_of_lt (by omega), Nat.add_zero]
        have e2 : (i * sz + j) % sz = j := by rw [Nat.mul_comm, Nat.mul_add_mod, Nat.mod_eq_of_lt (by omega)]
        simp only [List.getD, List.getElem?_map, List.getElem?_range hlt, Option.map_some, Option.getD_some, e1, e2]
        exact .i (hr _ _ _ _ h1 h2)
      · simp only [List.mem_map, List.mem_range] at hu
        obtain ⟨k, hk, rfl⟩ := hu
        exact (hcell k hk).2
    | str s =>
      simp only [srcA, Option.some.injEq, Prod.mk.injEq] at h
      obtain ⟨rfl, rfl⟩ := h
      subst hp
      have hl : (lift (bytesI s.data.toList)).length = s.size := by simp [lift, bytesI]
      have hget : ∀ (i : Nat) (cs : List V), (lift (bytesI s.data.toList))[i]? = some cs → ∃ b, s.data.toList[i]? = some b ∧ cs = [.i (.int .u8 b.toNat)] := by
        intro i cs hi
        simp only [lift, bytesI, List.getElem?_map, Option.map_eq_some_iff] at hi
        obtain ⟨cs0, ⟨b, h1, h2⟩, h3⟩ := hi
        subst h2; subst h3
        exact ⟨b, h1, rfl⟩
      refine ⟨s.data.toList.map fun b => .int .u8 b.toNat, fun w1 => by simp [Builtin.lenOf, hl], fun w1 _ => ?_, by rw [hl]; simp, fun i cs hi => ?_, fun i cs j v hi hj => ?_, fun u hu => ?_⟩
      · rw [hl]
        have : s.extract 0 s.size = s := by
          apply ByteArray.ext
          rw [ByteArray.data_extract]
          show s.data.extract 0 s.data.size = s.data
          simp
        simp only [Builtin.firstCells, this]
        rw [← Array.toArray_toList (xs := s.data.map _), Array.toList_map]
        rfl
      · obtain ⟨b, _, rfl⟩ := hget i cs hi; rfl
      · obtain ⟨b, h1, rfl⟩ := hget i cs hi
        have : j = 0 := by have := lt_of_get? hj; simp at this; exact this
        subst this
        simp only [List.getElem?_cons_zero, Option.some.injEq] at hj
        subst hj
        simp only [Nat.mul_one, Nat.add_zero, List.getD, List.getElem?_map, h1, Option.map_some, Option.getD_some]
        exact .i (.int _ _)
      · simp only [List.mem_map] at hu
        obtain ⟨b, _, rfl⟩ := hu
        rfl
    | _ => simp [srcA] at h
  | nils =>
    simp only [srcA, Option.some.injEq, Prod.mk.injEq] at h
    obtain ⟨rfl, rfl⟩ := h
    exact ⟨[], fun w1 => rfl, fun w1 _ => by simp [Builtin.firstCells], by simp, by simp, by simp, by simp⟩
  | @ref id ver off len _ hx =>
    simp only [srcA] at h
    split at h
    · rename_i ver' sz' ro es0 hid
      split at h
      · rename_i hc
        obtain ⟨rfl, rfl⟩ := hc
        simp only [Option.some.injEq, Prod.mk.injEq] at h
        obtain ⟨rfl, rfl⟩ := h
        obtain ⟨_, h3⟩ := hx.2 _ _ _ _ hid
        obtain ⟨h4, h5⟩ := h3 rfl
        have hlen : ((es0.drop off).take len).length = len := by simp; omega
        have empty : len = 0 → ∀ a c, x' = .slice a 0 c → ∃ news, Src P D μ st w sz' ((es0.drop off).take len) x' news := by
          rintro rfl a c rfl
          refine ⟨[], fun w1 => rfl, fun w1 _ => ?_, by simp, by simp, by simp, by simp⟩
          cases a <;> simp [Builtin.firstCells, loadCells, loadCellsFrom]
        rcases h5 with ⟨q1, _, rfl⟩ | ⟨g, m, c, hμ, rfl, _, _, _⟩ | ⟨q1, _, a, c, rfl⟩
        · exact empty (by omega) none 0 rfl
        · by_cases h0 : len = 0
          · subst h0; exact empty rfl (some ⟨g, off * sz', none⟩) c rfl
          · have he0 : es0[off]? = some (es0.getD off []) := getD_get? (by omega)
            obtain ⟨g', m', cur, T, lo, hi, hμ', hg, hm, hem, _, _, hlens, hcell, _⟩ := row_cells hs hid he0
            rw [hμ] at hμ'
            obtain ⟨rfl, rfl⟩ := Prod.mk.inj (Option.some.inj hμ')
            have hle : (off + len) * sz' ≤ m := Nat.le_trans (Nat.mul_le_mul_right _ h4) hem
            rw [Nat.add_mul] at hle
            have hget : ∀ (i : Nat) (cs : List V), ((es0.drop off).take len)[i]? = some cs → i < len ∧ es0[off + i]? = some cs := by
              intro i cs hi
              have := lt_of_get? hi
              rw [hlen] at this
              rw [List.getElem?_take, if_pos this, List.getElem?_drop] at hi
              exact ⟨this, hi⟩
            refine ⟨(List.range (len * sz')).map fun k => cur.getD (off * sz' + k) Go.undef, fun w1 => by simp only [hlen]; rfl, fun w1 hw1 => ?_, by rw [hlen]; simp, fun i cs hi => hlens _ cs (hget i cs hi).2, fun i cs j v hi hj => ?_, fun u hu => ?_⟩
            · have := run_loadCells (P := P) w1 ⟨g, off * sz', none⟩ (len * sz') (fun k => cur.getD (off * sz' + k) Go.undef) (fun k hk => by
                rw [Addr.add_lit, show w1.cell? ⟨g, off * sz' + k, none⟩ = w.cell? ⟨g, off * sz' + k, none⟩ by simp [World.cell?, hw1], cell_of_row w g _ cur T (lo, hi) hg, getD_of_lt (by omega)])
              rw [hlen]
              simpa [Builtin.firstCells] using this
            · obtain ⟨h1, h2⟩ := hget i cs hi
              have hjl := lt_of_get? hj
              rw [hlens _ cs h2] at hjl
              have hlt : i * sz' + j < len * sz' := by
                have : (i + 1) * sz' ≤ len * sz' := Nat.mul_le_mul_right _ h1
                rw [Nat.add_mul] at this; omega
              simp only [List.getD, List.getElem?_map, List.getElem?_range hlt, Option.map_some, Option.getD_some]
              have := hcell _ cs j v h2 hj
              rwa [Nat.add_mul, Nat.add_assoc] at this
            · simp only [List.mem_map, List.mem_range] at hu
              obtain ⟨k, hk, rfl⟩ := hu
              obtain ⟨cs, v, hi, hj, hk3⟩ := cells_at (es := (es0.drop off).take len) hlen (fun i cs hi => hlens _ cs (hget i cs hi).2) hk
              obtain ⟨h1, h2⟩ := hget _ cs hi
              have hv := hcell _ cs _ v h2 hj
              rw [Nat.add_mul, Nat.add_assoc, hk3] at hv
              exact known_ok hv (knownAll_mem (hp cs (List.mem_of_getElem? hi)) v (List.mem_of_getElem? hj))
        · exact empty q1 a c rfl
      · cases h
    · cases h
  | _ => simp [srcA] at h

/-- an append that finds room -/
theorem run_app_room {t t1 ty el : TypeId} {it : TypeInfo} (hu : P.underlying t = some (.slice el)) (hi : P.info? el = some it) {d1 : TypeDesc} (hu1 : P.underlying t1 = some d1) (hd1 : ∀ k, d1 ≠ .int k)
    {es : List (List V)} {x' : Value} {news : List Value} (hsrc : Src P D μ st w it.size es x' news) {g sLen sCap : Nat} {cur : Array Value} {T : TypeId} {lo hi' : Nat} (hg : w.heap[g]? = some (.cells cur T (lo, hi')))
    (hfz : ∀ k, k < cur.size → ¬ (lo ≤ k ∧ k < hi')) (hroom : sLen + es.length ≤ sCap) (hfit : sCap * it.size ≤ cur.size) :
    ∃ w' cur', (Builtin.append_ #[t, t1] ty #[.slice (some ⟨g, 0, none⟩) sLen sCap, x']).run P w = .ok (.slice (some ⟨g, 0, none⟩) (sLen + es.length) sCap) w' ∧ w'.heap[g]? = some (.cells cur' T (lo, hi')) ∧ cur'.size = cur.size ∧
      (∀ k, cur'.getD k Go.undef = if sLen * it.size ≤ k ∧ k < sLen * it.size + news.length then news.getD (k - sLen * it.size) Go.undef else cur.getD k Go.undef) ∧ Only g w w' := by
  have hle : (sLen + es.length) * it.size ≤ cur.size := Nat.le_trans (Nat.mul_le_mul_right _ hroom) hfit
  rw [Nat.add_mul] at hle
  obtain ⟨w', cur', hr, h1, h2, h3, h4⟩ := run_stores P g T lo hi' news (sLen * it.size) 0 cur w hg (by rw [hsrc.size]; omega) hfz hsrc.one
  refine ⟨w', cur', ?_, h1, h2, by simpa using h3, h4⟩
  have hz : (d1 matches .int _) = false := by
    cases d1 with
    | int k => exact absurd rfl (hd1 k)
    | _ => rfl
  simp [Builtin.append_, run_underlying hu, run_underlying hu1, hz, sizeOf, typeInfo, hi, hsrc.len, hroom, hsrc.read w rfl, Addr.add_lit, hr]

/-- an append that goes into a new block -/
theorem run_app_grow {t t1 ty el : TypeId} {it : TypeInfo} {z : Value} (hu : P.underlying t = some (.slice el)) (hi : P.info? el = some it) (hz : it.zero = some z) {d1 : TypeDesc} (hu1 : P.underlying t1 = some d1) (hd1 : ∀ k, d1 ≠ .int k)
    {es : List (List V)} {x' : Value} {news : List Value} (hsrc : Src P D μ st w it.size es x' news) {base : Option Addr} {sLen sCap : Nat} {olds : List Value}
    (hold : ∀ w1 : World, w1.heap = w.heap → (Builtin.firstCells it.size sLen (.slice base sLen sCap)).run P w1 = .ok olds.toArray w1) (hgr : sCap < sLen + es.length) (hb : (sLen + es.length) * it.bytes ≤ 140737488355328) (hml : sLen + es.length ≤ maxLen) :
    ∃ rest : List Value, (Builtin.append_ #[t, t1] ty #[.slice base sLen sCap, x']).run P w = .ok (.slice (some ⟨w.heap.size, 0, none⟩) (sLen + es.length) (grownCap w (sLen + es.length) sCap el)) (w.drew.alloc (.cells (olds ++ (news ++ rest)).toArray el)) ∧
      rest.length = (grownCap w (sLen + es.length) sCap el - (sLen + es.length)) * z.cells.size := by
  have hn : ¬ (sLen + es.length ≤ sCap) := by omega
  have h63' : ¬ (9223372036854775807 < ((sLen : Int) + (es.length : Int))) := by unfold maxLen at hml; omega
  have hfit := growslice_fits (need := sLen + es.length) (old := sCap) (bytes := it.bytes) hgr hb
  have h48' : ¬ (281474976710656 < Builtin.nextslicecap (sLen + es.length) sCap * it.bytes) := by omega
  have hz' : (d1 matches .int _) = false := by
    cases d1 with
    | int k => exact absurd rfl (hd1 k)
    | _ => rfl
  have hr1 := hsrc.read w.drew rfl
  have hr2 := hold w.drew rfl
  refine ⟨(Builtin.zeroCells z.cells (grownCap w (sLen + es.length) sCap el - (sLen + es.length))).toList, ?_, by simp [Builtin.zeroCells]⟩
  simp [Builtin.append_, run_underlying hu, run_underlying hu1, hz', sizeOf, typeInfo, zeroValue, hi, hz, hsrc.len, hn, h63', h48', Question.forced, hr1, hr2, newRow, grownCap]
  congr 2
  apply Array.ext'
  simp [List.append_assoc]
end
end Go.Proofs.YtdbmfnhbgacldaaDoor.Am
