/- Arrays of bytes and words as rows of one cell an element: made, read, written, indexed, sliced, copied in themselves. -/
import Derived.Test.YtdbmfnhbgacldaaDoorAmK
namespace Go.Proofs.YtdbmfnhbgacldaaDoor.Am
set_option autoImplicit false
set_option linter.unusedVariables false
set_option linter.unusedSimpArgs false
def flatA (P : Program) (t : TypeId) : Option Nat := match arrA P t with
  | some (n, el) => match P.underlying el with
    | some (.int .u8) | some (.int .u32) => if szA P el = 1 ∧ (aggA P el).isSome = true ∧ aggA P t = some true ∧ szA P t = n ∧ 2 ≤ n then some n else none
    | _ => none
  | none => none
/-- a row of one cell an element, where an array of n begins -/
def flatAt (st : List Ob) : V → Option (Nat × Nat × Nat × Nat × Bool × List (List V))
  | .ptr id ver e j => match st[id]? with
    | some (.row ver' 1 ro es) => if ver = ver' then some (id, ver, e, j, ro, es) else none
    | _ => none
  | _ => none
def arrOpA (P : Program) (st : List Ob) (ρ : Operand → V) : Op → Option (Option Prop × V × List Ob)
  | .alloc t => match flatA P t with
    | some n => (zeroA P t).map fun zs => (some (zs.length = n), .ptr st.length 1 0 0, st ++ [.row 1 1 false (zs.map fun z => [z])])
    | none => none
  | .load t a => match flatAt st (ρ a) with
    | some (id, ver, e, j, ro, es) => match flatA P t with
      | some n => some (some (e = 0 ∧ j = 0 ∧ es.length = n), .agg (es.map fun cs => cs.getD 0 .undef), st)
      | none => none
    | none => none
  | .store t a x => match flatAt st (ρ a) with
    | some (id, ver, e, j, false, es) => match flatA P t with
      | some n => some (some (e = 0 ∧ j = 0 ∧ es.length = n ∧ (ρ x).cells.length = n ∧ knownAll st (ρ x).cells = true), .tup [], st.set id (.row ver 1 false ((ρ x).cells.map fun c => [c])))
      | none => none
    | _ => none
  | .indexAddr t x i => match flatAt st (ρ x), ρ i with
    | some (id, ver, e, j, ro, es), .i (.int _ i) => match flatA P t with
      | some n => some (some (e = 0 ∧ j = 0 ∧ es.length = n ∧ 0 ≤ i ∧ i < n), .ptr id ver i.toNat 0, st)
      | none => none
    | _, _ => none
  | .slice t x lo hi none => match flatAt st (ρ x) with
    | some (id, ver, e, j, ro, es) => match flatA P t with
      | some n => match bndA 0 (lo.map ρ), bndA n (hi.map ρ) with
        | some l, some h => some (some (e = 0 ∧ j = 0 ∧ (es.take n).length = n ∧ 0 ≤ l ∧ l ≤ h ∧ h ≤ n ∧ l < n ∧ n ≤ 1000), .ref id ver l.toNat (h.toNat - l.toNat), st)
        | _, _ => none
      | none => none
    | none => none
  | .call { callee := .builtin .copy, args, argTypes } => match argTypes.toList, args.toList.map ρ with
    | [t, _], [.ref id ver off len, x] => match st[id]? with
      | some (.row ver' 1 false es) => match elemA P t with
        | some el => if ver = ver' ∧ szA P el = 1 ∧ (aggA P el).isSome = true then match srcA st 1 x with
            | some (p, news) => some (some (p ∧ news.length ≤ len ∧ 0 < news.length), .i (.int .i64 news.length), st.set id (.row ver 1 false (es.take off ++ (news ++ es.drop (off + news.length)))))
            | none => none
          else none
        | none => none
      | _ => none
    | _, _ => none
  | _ => none
section
variable {P : Program} {D : Nat → Prop} {μ : Mu} {st : List Ob} {w : World}
def Op1 (P : Program) (D : Nat → Prop) (μ : Mu) (st : List Ob) (w : World) (sem : Sem Next) (v : V) (st' : List Ob) : Prop :=
  ∃ y μ' w', (sem.run P w = .ok (.value y) w' ∨ (sem.run P w = .ok .skip w' ∧ y = Go.undef)) ∧ vrel μ' st' (qd D μ' st' w') w' v y ∧ srel D μ' st' w' ∧ Fr μ st w μ' st' w' ∧ Ev st.length μ st μ' st'
theorem Op1.of {sem : Sem Value} {v : V} {st' : List Ob} (h : Does P D μ st w sem v st') : Op1 P D μ st w (do pure (.value (← sem))) v st' := by
  obtain ⟨y, μ', w', h1, h2⟩ := h
  exact ⟨y, μ', w', .inl (by simp [h1]), h2⟩
theorem Op1.ofU {sem : Sem Unit} {st' : List Ob} (h : DoesU P D μ st w sem st') : Op1 P D μ st w (do sem; pure .skip) (.tup []) st' := by
  obtain ⟨μ', w', h1, h2⟩ := h
  exact ⟨Go.undef, μ', w', .inr ⟨by simp [h1], rfl⟩, .tup [] #[] rfl (by simp), h2⟩

theorem flatA_ok {t : TypeId} {n : Nat} (h : flatA P t = some n) : ∃ el, P.underlying t = some (.array n el) ∧ szA P el = 1 ∧ (∃ b, aggA P el = some b) ∧ aggA P t = some true ∧ szA P t = n ∧ 2 ≤ n := by
  unfold flatA at h
  split at h
  · rename_i n' el har
    have hu := arrA_ok har
    split at h
    · split at h
      · rename_i hc; cases h; exact ⟨el, hu, hc.1, Option.isSome_iff_exists.1 hc.2.1, hc.2.2⟩
      · cases h
    · split at h
      · rename_i hc; cases h; exact ⟨el, hu, hc.1, Option.isSome_iff_exists.1 hc.2.1, hc.2.2⟩
      · cases h
    · cases h
  · cases h
theorem flatAt_ok {x : V} {id ver e j : Nat} {ro : Bool} {es : List (List V)} (h : flatAt st x = some (id, ver, e, j, ro, es)) : x = .ptr id ver e j ∧ st[id]? = some (.row ver 1 ro es) := by
  unfold flatAt at h
  split at h
  · rename_i id' ver' e' j'
    split at h
    · rename_i v2 ro2 es2 hid
      split at h
      · rename_i hv; cases h; exact ⟨rfl, by rw [hid, hv]⟩
      · cases h
    · cases h
  · cases h
theorem one_cell {cs : List V} {v : V} (h : cs.length = 1) (hv : v = cs.getD 0 .undef) : cs = [v] := by
  match cs, h with
  | [c], _ => subst hv; rfl
/-- where a flat row lies -/
theorem flat_cells (hs : srel D μ st w) {id ver : Nat} {ro : Bool} {es : List (List V)} {x' : Value} (hid : st[id]? = some (.row ver 1 ro es)) (hx : vrel μ st (qd D μ st w) w (.ptr id ver 0 0) x') :
    ∃ g m cur T lo hi, x' = .pointer (some ⟨g, 0, none⟩) ∧ μ id = some (g, m) ∧ w.heap[g]? = some (.cells cur T (lo, hi)) ∧ cur.size = m ∧ es.length ≤ m ∧ (∀ (i : Nat) (cs : List V), es[i]? = some cs → cs.length = 1) ∧
      (∀ (i : Nat) (cs : List V), es[i]? = some cs → vrel μ st (qd D μ st w) w (cs.getD 0 .undef) (cur.getD i Go.undef)) ∧ unfz lo hi m := by
  cases hx with
  | ptr hx =>
  obtain ⟨hlt, g, m, hμ, rfl⟩ := (hx.2 _ _ _ _ hid).2 rfl
  obtain ⟨g', m', cur, T, lo, hi, hμ', hg, hm, hem, hl, hle, hlen, hcell, hfz⟩ := row_cells hs hid (getD_get? (d := ([] : List V)) hlt)
  rw [hμ] at hμ'
  obtain ⟨rfl, rfl⟩ := Prod.mk.inj (Option.some.inj hμ')
  refine ⟨g, m, cur, T, lo, hi, by simp, hμ, hg, hm, by simpa using hem, hlen, fun i cs hi' => ?_, hfz⟩
  have := hcell i cs 0 (cs.getD 0 .undef) hi' (getD_get? (by rw [hlen i cs hi']; exact Nat.one_pos))
  simpa using this
theorem mid_get {α : Type} {es news : List α} {off : Nat} (h : off + news.length ≤ es.length) (k : Nat) : (es.take off ++ (news ++ es.drop (off + news.length)))[k]? = if off ≤ k ∧ k < off + news.length then news[k - off]? else es[k]? := by
  have hl : (es.take off).length = off := by simp; omega
  by_cases h1 : k < off
  · rw [List.getElem?_append_left (by omega), if_neg (by omega), List.getElem?_take, if_pos h1]
  · rw [List.getElem?_append_right (by omega), hl]
    by_cases h2 : k < off + news.length
    · rw [List.getElem?_append_left (by omega), if_pos (by omega)]
    · rw [List.getElem?_append_right (by omega), if_neg (by omega), List.getElem?_drop]
      congr 1
      omega
theorem mid_len {α : Type} {es news : List α} {off : Nat} (h : off + news.length ≤ es.length) : (es.take off ++ (news ++ es.drop (off + news.length))).length = es.length := by
  simp; omega
theorem copy_ok (hs : srel D μ st w) {t t1 ty el : TypeId} {id ver off len : Nat} {es news : List (List V)} {x : V} {d' x' : Value} {p : Prop} (hid : st[id]? = some (.row ver 1 false es)) (he : elemA P t = some el) (hz : szA P el = 1) (hb : (aggA P el).isSome = true)
    (hsrc : srcA st 1 x = some (p, news)) (hp : p) (hl : news.length ≤ len) (h0 : 0 < news.length) (hd : vrel μ st (qd D μ st w) w (.ref id ver off len) d') (hx : vrel μ st (qd D μ st w) w x x') :
    Does P D μ st w (Builtin.copy_ #[t, t1] ty #[d', x']) (.i (.int .i64 news.length)) (st.set id (.row ver 1 false (es.take off ++ (news ++ es.drop (off + news.length))))) := by
  obtain ⟨b, hb⟩ := Option.isSome_iff_exists.1 hb
  have hu := elemA_ok he
  obtain ⟨cells, hS⟩ := srcA_ok (P := P) hs hsrc hp hx
  cases hd with
  | ref hd =>
  obtain ⟨h4, h5⟩ := (hd.2 _ _ _ _ hid).2 rfl
  rcases h5 with ⟨a1, a2, rfl⟩ | ⟨g, m, c, hμ, rfl, a3, a4, a5⟩ | ⟨a1, a2, a, c, rfl⟩
  · omega
  · have hcs : ∃ cs, es[off]? = some cs := ⟨_, List.getElem?_eq_getElem (by omega)⟩
    obtain ⟨cs0, hcs0⟩ := hcs
    obtain ⟨g', m', cur, T, lo, hi, hμ', hg, hm, hem, hle1, hle, hlen, hcell, hfz⟩ := row_cells hs hid hcs0
    rw [hμ] at hμ'
    obtain ⟨rfl, rfl⟩ := Prod.mk.inj (Option.some.inj hμ')
    have hcl : cells.length = news.length := by rw [hS.size, Nat.mul_one]
    have hbd : off + news.length ≤ es.length := by omega
    obtain ⟨w', cur', hrun, hg', hs', hc', hoo⟩ := run_stores P g T lo hi cells (off * 1) 0 cur w hg (by omega) (by rw [hm]; exact unfz_ok hfz) hS.one
    obtain ⟨r1, r2, r3, _⟩ := write_row hs hid hμ hoo (ver' := ver) (es' := es.take off ++ (news ++ es.drop (off + news.length))) (Nat.le_refl _) (fun _ => (mid_len hbd).symm) hg' (by rw [hs', hm]) (by rw [mid_len hbd]; exact hem)
      (fun i cs hi' => by
        rw [mid_get hbd] at hi'
        split at hi'
        · exact hS.each _ cs hi'
        · exact hlen i cs hi')
      hfz
      (fun i cs k u hi' hk hkeep => by
        rw [hc' (i * 1 + k)]
        rw [mid_get hbd] at hi'
        have hk0 : k = 0 := by
          have h1 : cs.length = 1 := by
            split at hi'
            · exact hS.each _ cs hi'
            · exact hlen i cs hi'
          have := lt_of_get? hk
          omega
        subst hk0
        split at hi'
        · rename_i hr
          rw [if_pos (by omega)]
          have := hkeep _ _ (hS.rel _ cs 0 u hi' hk)
          have e2 : i * 1 + 0 - (off * 1 + 0) = (i - off) * 1 + 0 := by omega
          rw [e2]
          exact this
        · rename_i hr
          rw [if_neg (by omega)]
          exact hkeep _ _ (hcell i cs 0 u hi' hk))
    refine ⟨.int .i64 news.length, μ, w', ?_, .i (.int _ _), r1, r2, r3⟩
    have hmin : Nat.min news.length len = news.length := Nat.min_eq_left hl
    have hrd := hS.read w rfl
    simp only [Builtin.copy_, List.getElem?_toArray, List.getElem?_cons_zero, List.getElem?_cons_succ, Sem.run_bind, run_underlying hu, Result.andThen_ok, hS.len, hmin, runSize hb, hz, hrd, hrun, Sem.run_pure, goInt]
  · omega
theorem arrOpA_ok (hs : srel D μ st w) {ρ : Operand → V} {ρ' : Operand → Value} (hr : ∀ x, vrel μ st (qd D μ st w) w (ρ x) (ρ' x)) (o : Oper) {p : Option Prop} {v : V} {st' : List Ob} (h : arrOpA P st ρ o.op = some (p, v, st')) (hp : sd p) :
    Op1 P D μ st w (execOp ρ' o) v st' := by
  unfold execOp
  cases ho : o.op <;> rw [ho] at h <;> simp only [arrOpA, reduceCtorEq] at h
  case alloc t =>
    split at h
    · rename_i n hf
      obtain ⟨el, hu, hz, hb, ha, hsz, h2⟩ := flatA_ok hf
      simp only [Option.map_eq_some_iff] at h
      obtain ⟨zs, hz1, h3⟩ := h
      cases h3
      have hp := hp _ rfl
      unfold zeroA at hz1
      cases hi : P.info? t with
      | none => simp [hi] at hz1
      | some i =>
        simp only [hi, Option.map_eq_some_iff] at hz1
        obtain ⟨z, hz2, rfl⟩ := hz1
        have hzo := zero_ok (μ := μ) (st := st) (w := w) (Q := qd D μ st w) z.cells
        obtain ⟨r1, r2, r3, _⟩ := newRow_ok (T := t) 1 hs (sz := 1) (es := (z.cells.toList.map ofC).map fun z => [z]) (cur := z.cells) (by simp) (fun i cs h => by
            simp only [List.getElem?_map, Option.map_eq_some_iff] at h
            obtain ⟨_, _, rfl⟩ := h
            rfl)
          (fun i cs j v h hj => by
            simp only [List.getElem?_map, Option.map_eq_some_iff] at h
            obtain ⟨u, hu1, rfl⟩ := h
            cases j with
            | zero =>
              simp only [List.getElem?_cons_zero, Option.some.injEq] at hj
              subst hj
              have := hzo.2 i u (by rw [List.getElem?_map]; obtain ⟨a, ha, rfl⟩ := hu1; rw [ha]; rfl)
              simpa using this
            | succ j => simp at hj)
        refine Op1.of ⟨_, _, _, (by simp [Instr.alloc, zeroValue, typeInfo, hi, hz2, newVar, newRow] : (Instr.alloc t true (.tuple #[])).run P w = .ok (.pointer (some ⟨w.heap.size, 0, none⟩)) (w.alloc (.cells z.cells t))), .ptr ⟨by simp, fun v' s' r' e' h' => ?_⟩, r1, r2, r3⟩
        rw [new_get] at h'; cases h'
        exact ⟨Nat.le_refl _, fun _ => ⟨by simp only [List.length_map] at hp ⊢; omega, w.heap.size, z.cells.size, upd_same _ _ _, by simp⟩⟩
    · cases h
  case load t a =>
    split at h
    · rename_i id ver e j ro es hfa
      obtain ⟨hxa, hid⟩ := flatAt_ok hfa
      split at h
      · rename_i n hf
        obtain ⟨el, hu, hz, hb, ha, hsz, h2⟩ := flatA_ok hf
        cases h
        obtain ⟨rfl, rfl, hn⟩ := hp _ rfl
        have hx := hr a
        rw [hxa] at hx
        obtain ⟨g, m, cur, T, lo, hi, hxe, hμ, hg, hm, hem, hlen, hcell, hfz⟩ := flat_cells hs hid hx
        obtain ⟨y, hy, hv⟩ := load_cells (P := P) (μ := μ) (st := st) (Q := qd D μ st w) (w := w) (t := t) (cs := es.map fun cs => cs.getD 0 .undef) (j := 0) (p := Nat.ble (0 + szA P t) (es.map fun cs => cs.getD 0 V.undef).length = true) (v := .agg (((es.map fun cs => cs.getD 0 V.undef).drop 0).take (szA P t)))
          (by unfold partA; rw [ha]) (by simp [hsz, hn]) (g := g) (o := 0) (fun k => cur.getD k Go.undef)
          (fun k u hk => by
            have := lt_of_get? hk
            simp only [List.length_map] at this
            rw [cell_of_row w g _ cur T (lo, hi) hg, getD_of_lt (by omega)]
            simp)
          (fun k u hk => by
            simp only [List.getElem?_map, Option.map_eq_some_iff] at hk
            obtain ⟨cs, hcs, rfl⟩ := hk
            exact hcell k cs hcs)
        have e1 : ((es.map fun cs => cs.getD 0 V.undef).drop 0).take (szA P t) = es.map fun cs => cs.getD 0 V.undef := by
          rw [List.drop_zero]; exact List.take_of_length_le (by simp [hsz, hn])
        rw [e1] at hv
        exact Op1.of (Does.same hs (by simpa [Instr.loadAt, Instr.sureAddr, hxe] using hy) hv)
      · cases h
    · cases h
  case store t a x =>
    split at h
    · rename_i id ver e j es hfa
      obtain ⟨hxa, hid⟩ := flatAt_ok hfa
      split at h
      · rename_i n hf
        obtain ⟨el, hu, hz, hb, ha, hsz, h2⟩ := flatA_ok hf
        cases h
        obtain ⟨rfl, rfl, hn, hvn, hkn⟩ := hp _ rfl
        have hx := hr a
        rw [hxa] at hx
        obtain ⟨g, m, cur, T, lo, hi, hxe, hμ, hg, hm, hem, hlen, hcell, hfz⟩ := flat_cells hs hid hx
        obtain ⟨c1, c2, c3⟩ := cells_ok (hr x) hkn
        obtain ⟨w', cur', hrun, hg', hs', hc', hoo⟩ := run_stores P g T lo hi (ρ' x).cells.toList 0 0 cur w hg (by simp only [Array.length_toList]; omega) (by rw [hm]; exact unfz_ok hfz) c3
        obtain ⟨r1, r2, r3, _⟩ := write_row hs hid hμ hoo (ver' := ver) (es' := (ρ x).cells.map fun c => [c]) (Nat.le_refl _) (fun _ => by simp [hn, hvn]) hg' (by rw [hs', hm]) (by simp; omega)
          (fun i cs hi' => by
            simp only [List.getElem?_map, Option.map_eq_some_iff] at hi'
            obtain ⟨_, _, rfl⟩ := hi'
            rfl)
          hfz
          (fun i cs k u hi' hk hkeep => by
            simp only [List.getElem?_map, Option.map_eq_some_iff] at hi'
            obtain ⟨c, hcc, rfl⟩ := hi'
            cases k with
            | succ k => simp at hk
            | zero =>
              simp only [List.getElem?_cons_zero, Option.some.injEq] at hk
              subst hk
              rw [hc' (i * 1 + 0), if_pos (by simp only [Array.length_toList]; have := lt_of_get? hcc; omega)]
              have := hkeep _ _ (c2 _ _ hcc)
              rw [Array.getD_eq_getD_getElem?, ← Array.getElem?_toList] at this
              simpa using this)
        refine Op1.ofU ⟨μ, w', ?_, r1, r2, r3⟩
        have hzz : (ρ' x).cells.size = szA P t := by rw [c1, hvn, hsz]
        simp only [Instr.storeAt, Instr.sureAddr, storeVar, hxe, Sem.run_bind, Sem.run_pure, Result.andThen_ok, runSize ha, hzz, ne_eq, not_true, if_false]
        exact hrun
      · cases h
    · cases h
  case indexAddr t x i =>
    split at h
    · rename_i id ver e j ro es k i' hfa hii
      obtain ⟨hxa, hid⟩ := flatAt_ok hfa
      split at h
      · rename_i n hf
        obtain ⟨el, hu, hz, ⟨b, hb⟩, ha, hsz, h2⟩ := flatA_ok hf
        cases h
        obtain ⟨rfl, rfl, hn, hi0, hin⟩ := hp _ rfl
        have hx := hr x
        rw [hxa] at hx
        obtain ⟨g, m, cur, T, lo, hi, hxe, hμ, hg, hm, hem, hlen, hcell, hfz⟩ := flat_cells hs hid hx
        have hiv := hr i
        rw [hii] at hiv
        have hie : ρ' i = .int k i' := by
          generalize ρ' i = y at hiv
          cases hiv with | i hiv => cases hiv; rfl
        refine Op1.of (Does.same hs (y := .pointer (some ⟨g, i'.toNat, none⟩)) ?_ (.ptr ⟨lt_of_get? hid, fun v' s' r' e' h' => ?_⟩))
        · simp [Instr.indexAt, hie, hxe, asIntOf, run_underlying hu, Instr.sureAddr, hi0, hin, runSize hb, Addr.add_lit, hz]
        · rw [hid] at h'; cases h'
          exact ⟨Nat.le_refl _, fun _ => ⟨by omega, g, m, hμ, by simp⟩⟩
      · cases h
    · cases h
  case slice t x lo hi mx =>
    cases mx with
    | some mm => simp [arrOpA] at h
    | none =>
      simp only [arrOpA] at h
      split at h
      · rename_i id ver e j ro es hfa
        obtain ⟨hxa, hid⟩ := flatAt_ok hfa
        split at h
        · rename_i n hf
          obtain ⟨el, hu, hz, ⟨b, hb⟩, ha, hsz, h2⟩ := flatA_ok hf
          split at h
          · rename_i l hh hl1 hh1
            cases h
            obtain ⟨rfl, rfl, hn, q1, q2, q3, q4, q5⟩ := hp _ rfl
            replace hn : n ≤ es.length := by rw [List.length_take] at hn; omega
            have hx := hr x
            rw [hxa] at hx
            obtain ⟨g, m, cur, T, lo', hi', hxe, hμ, hg, hm, hem, hlen, hcell, hfz⟩ := flat_cells hs hid hx
            have opt : ∀ o : Option Operand, optRel μ st (qd D μ st w) w (o.map ρ) (o.map ρ') := fun o => by cases o with | none => trivial | some x => exact hr x
            have hbd := bounds_ok (P := P) (b := false) (cap := n) (opt lo) (opt hi) hl1 hh1 q1 q2 q3 (Nat.le_refl _)
            have hne : ¬ n = l.toNat := by omega
            refine Op1.of (Does.same hs (y := .slice (some ⟨g, l.toNat, none⟩) (hh.toNat - l.toNat) (n - l.toNat)) ?_ (.ref ⟨lt_of_get? hid, fun v' s' r' e' h' => ?_⟩))
            · simp [Instr.sliceAt, hxe, run_underlying hu, Instr.sureAddr, hbd, runSize hb, hz, hne, Addr.add_lit]
            · rw [hid] at h'; cases h'
              refine ⟨Nat.le_refl _, fun _ => ⟨by omega, .inr (.inl ⟨g, m, n - l.toNat, hμ, by simp, by omega, by unfold maxLen; omega, by omega⟩)⟩⟩
          · cases h
        · cases h
      · cases h
  case call c =>
    obtain ⟨callee, args, argTypes⟩ := c
    cases callee with
    | value f => simp [arrOpA] at h
    | invoke r m => simp [arrOpA] at h
    | builtin b =>
      cases b <;> simp only [arrOpA, reduceCtorEq] at h
      split at h
      · rename_i t t1 id ver off len x hts hxs
        split at h
        · rename_i ver' es hid
          split at h
          · rename_i el he
            split at h
            · rename_i hc
              obtain ⟨rfl, hz, hb⟩ := hc
              split at h
              · rename_i p news hsrc
                cases h
                obtain ⟨hp1, hl, h0⟩ := hp _ rfl
                have hts' : argTypes = #[t, t1] := by rw [← Array.toArray_toList (xs := argTypes), hts]
                obtain ⟨a, b, hab⟩ : ∃ a b, args = #[a, b] := by
                  obtain ⟨l⟩ := args
                  match l, (by simpa using congrArg List.length hxs : l.length = 2) with
                  | [a, b], _ => exact ⟨a, b, rfl⟩
                subst hab
                simp only [List.map_cons, List.map_nil, List.cons.injEq, and_true] at hxs
                obtain ⟨ha, hb2⟩ := hxs
                subst hts'
                have va := hr a
                have vb := hr b
                rw [ha] at va
                rw [hb2] at vb
                have e : (#[a, b] : Array Operand).map ρ' = #[ρ' a, ρ' b] := by simp
                have key : ∀ ty, Op1 P D μ st w (do pure (.value (← Builtin.copy_ #[t, t1] ty ((#[a, b] : Array Operand).map ρ')))) (.i (.int .i64 news.length)) (st.set id (.row ver 1 false (es.take off ++ (news ++ es.drop (off + news.length))))) :=
                  fun ty => by rw [e]; exact Op1.of (copy_ok (P := P) (t1 := t1) (ty := ty) hs hid he hz hb hsrc hp1 hl h0 va vb)
                exact key o.type
              · cases h
            · cases h
          · cases h
        · cases h
      · cases h
/-- what a result's cell holds: also an array of one cell an element -/
def loadR (P : Program) (st : List Ob) (t : TypeId) (x : V) : Option (Prop × V) := match flatAt st x with
  | some (_, _, e, j, _, es) => match flatA P t with
    | some n => some (e = 0 ∧ j = 0 ∧ es.length = n, .agg (es.map fun cs => cs.getD 0 .undef))
    | none => loadA P st t x
  | none => loadA P st t x
theorem loadR_run (hs : srel D μ st w) {t : TypeId} {x v : V} {p : Prop} {x' : Value} (h : loadR P st t x = some (p, v)) (hp : p) (hx : vrel μ st (qd D μ st w) w x x') : ∃ y, (Instr.loadAt t x').run P w = .ok y w ∧ vrel μ st (qd D μ st w) w v y := by
  unfold loadR at h
  split at h
  · rename_i id ver e j ro es hfa
    split at h
    · rename_i n hf
      obtain ⟨hxa, hid⟩ := flatAt_ok hfa
      obtain ⟨el, hu, hz, hb, ha, hsz, h2⟩ := flatA_ok hf
      cases h
      obtain ⟨rfl, rfl, hn⟩ := hp
      subst hxa
      obtain ⟨g, m, cur, T, lo, hi, hxe, hμ, hg, hm, hem, hlen, hcell, hfz⟩ := flat_cells hs hid hx
      obtain ⟨y, hy, hv⟩ := load_cells (P := P) (μ := μ) (st := st) (Q := qd D μ st w) (w := w) (t := t) (cs := es.map fun cs => cs.getD 0 .undef) (j := 0) (p := Nat.ble (0 + szA P t) (es.map fun cs => cs.getD 0 V.undef).length = true) (v := .agg (((es.map fun cs => cs.getD 0 V.undef).drop 0).take (szA P t)))
        (by unfold partA; rw [ha]) (by simp [hsz, hn]) (g := g) (o := 0) (fun k => cur.getD k Go.undef)
        (fun k u hk => by
          have := lt_of_get? hk
          simp only [List.length_map] at this
          rw [cell_of_row w g _ cur T (lo, hi) hg, getD_of_lt (by omega)]
          simp)
        (fun k u hk => by
          simp only [List.getElem?_map, Option.map_eq_some_iff] at hk
          obtain ⟨cs, hcs, rfl⟩ := hk
          exact hcell k cs hcs)
      have e1 : ((es.map fun cs => cs.getD 0 V.undef).drop 0).take (szA P t) = es.map fun cs => cs.getD 0 V.undef := by
        rw [List.drop_zero]; exact List.take_of_length_le (by simp [hsz, hn])
      rw [e1] at hv
      exact ⟨y, by simpa [Instr.loadAt, Instr.sureAddr, hxe] using hy, hv⟩
    · exact loadA_run hs h hp hx
  · exact loadA_run hs h hp hx
end
end Go.Proofs.YtdbmfnhbgacldaaDoor.Am
