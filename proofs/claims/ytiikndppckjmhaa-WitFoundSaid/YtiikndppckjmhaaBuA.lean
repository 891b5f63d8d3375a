/- A builder of bytes: its methods, walked. -/
import Derived.Test.YtiikndppckjmhaaBdWitFound32
import Derived.WalkKit
import Derived.Lib.Builder
import Derived.Lib.UnsafeStr
import Derived.Lib.Walk
import Derived.Laws.Externs
import Derived.Laws.AppendOwn
import Derived.Shelf.RegionOpenPlain
namespace Go.Proofs.Ytiikndppckjmhaa.Am
open Go.RowKit
set_option autoImplicit false
set_option linter.unusedVariables false
set_option linter.unusedSimpArgs false
section
variable {P : Program} (w : World)
/-- one byte more behind bytes that are one's own: in their place, or all in a new one -/
theorem app_one (t ty e : TypeId) (i : TypeInfo) (ht : P.underlying t = some (.slice e)) (hi : P.info? e = some i) (hz : i.zero = some (.int .u8 0)) (hs1 : i.size = 1) (hb1 : i.bytes = 1)
    (v : Value) (n : Nat) (xs : List Value) (hown : w.ownsRow 0 e 1 v n xs) (a : Addr) (c : Nat) (x : Value) (hx : w.cell? (a.add 0) = some x) (h1 : x.oneCell' = true) (hn : n + 1 ≤ 140737488355328) :
    ∃ v' w', (Builtin.append_ #[t, t] ty #[v, .slice (some a) 1 c]).run P w = .ok v' w' ∧ w'.ownsRow 0 e 1 v' (n + 1) (xs ++ [x]) ∧ w.grownBy w' v.ownBlock ∧
      ((v'.ownBlock = v.ownBlock ∧ v.ownBlock ≠ none) ∨ ∃ g, v'.ownBlock = some g ∧ w.heap.size ≤ g) := by
  have hl : ([x] : List Value).length = 1 * 1 := rfl
  have hnews : ∀ (j : Nat) u, [x][j]? = some u → w.cell? (a.add j) = some u := fun j u hj => by
    match j, hj with
    | 0, hj => simp at hj; subst hj; exact hx
  have hone : ∀ u ∈ [x], u.oneCell' = true := fun u hu => by simp at hu; subst hu; exact h1
  have h63 : n + 1 ≤ maxLen := by unfold maxLen; omega
  have hzs : (Value.int .u8 0).cells.size = 1 := rfl
  rcases hown.2 with ⟨rfl, rfl⟩ | ⟨g, cap, cur, rfl, _, hg, hnc, hcm, hcs, htake⟩
  · have hxs : xs = [] := List.eq_nil_of_length_eq_zero (by simpa using hown.1)
    subst hxs
    obtain ⟨v', w', hr, h2, h3, h4⟩ := run_append_own (P := P) w w.heap.size t ty e i (.int .u8 0) 1 1 ht hi hz hs1 hb1 hzs (by decide) _ _ _ (World.ownsRow_nil w w.heap.size e 1) a 1 c [x] hl hnews hone h63 (by omega) (Nat.le_refl _)
    refine ⟨v', w', hr, ?_, h3, .inr ?_⟩
    · exact ⟨h2.1, h2.2.imp id fun ⟨g, cap, cur, q1, _, q2⟩ => ⟨g, cap, cur, q1, Nat.zero_le _, q2⟩⟩
    · rcases h2.2 with ⟨_, q⟩ | ⟨g, cap, cur, rfl, q, _⟩
      · omega
      · exact ⟨g, rfl, q⟩
  · obtain ⟨v', w', hr, h2, h3, h4⟩ := run_append_own (P := P) w 0 t ty e i (.int .u8 0) 1 1 ht hi hz hs1 hb1 hzs (by decide) _ _ _ hown a 1 c [x] hl hnews hone h63 (by omega) (Nat.zero_le _)
    refine ⟨v', w', hr, h2, h3, ?_⟩
    by_cases hroom : n + 1 ≤ cap
    · have hr2 := run_append_room (P := P) w t ty e i ht hi g n cap cur hg a 1 c [x] (by rw [hs1]; rfl) hnews hone hroom (by rw [hs1, hcs]; simp; omega)
      rw [hr] at hr2
      cases hr2
      exact .inl ⟨rfl, by simp [Value.ownBlock]⟩
    · have holds : ∀ (j : Nat) u, xs[j]? = some u → w.cell? ((⟨g, 0, none⟩ : Addr).add j) = some u := hown.cells (g := g) rfl
      have hr2 := run_append_grow (P := P) w t ty e i (.int .u8 0) ht hi hz ⟨g, 0, none⟩ n cap xs (by rw [hs1]; exact hown.1) holds a 1 c [x] (by rw [hs1]; rfl) hnews (by omega) (by unfold maxLen at h63; omega) (by rw [hb1]; exact growslice_fits (by omega) (by omega))
      rw [hr] at hr2
      cases hr2
      exact .inr ⟨_, rfl, Nat.le_refl _⟩
theorem wpl_app {ops : Array Oper} {rest : List Oper} {o : Oper} {a : Act} {Q : Exit → Act → World → Prop} (hgd : o.guard = none) (s y : Operand) (t : TypeId) (ho : o.op = .call { callee := .builtin .append, args := #[s, y], argTypes := #[t, t] })
    (e : TypeId) (i : TypeInfo) (ht : P.underlying t = some (.slice e)) (hi : P.info? e = some i) (hz : i.zero = some (.int .u8 0)) (hs1 : i.size = 1) (hb1 : i.bytes = 1)
    (v : Value) (n : Nat) (xs : List Value) (hs : a.eval s = v) (hown : w.ownsRow 0 e 1 v n xs) (ad : Addr) (c : Nat) (x : Value) (hy : a.eval y = .slice (some ad) 1 c) (hx : w.cell? (ad.add 0) = some x) (h1 : x.oneCell' = true) (hn : n + 1 ≤ 140737488355328)
    (h : ∀ v' w', w'.ownsRow 0 e 1 v' (n + 1) (xs ++ [x]) → w.grownBy w' v.ownBlock → ((v'.ownBlock = v.ownBlock ∧ v.ownBlock ≠ none) ∨ ∃ g, v'.ownBlock = some g ∧ w.heap.size ≤ g) → wpList P ops Q rest (a.put o.dst v') w') : wpList P ops Q (o :: rest) a w := by
  refine wpList_plain hgd fun K hK => ?_
  obtain ⟨v', w', hr, h2, h3, h4⟩ := app_one (P := P) w t o.type e i ht hi hz hs1 hb1 v n xs hown ad c x hx h1 hn
  unfold Oper.wp execOp
  simp only [ho, resolve, invoke, builtin, Sem.run_bind, Sem.run_pure, Result.andThen_ok, List.map_toArray, List.map_cons, List.map_nil, hs, hy, hr]
  exact hK _ _ (h v' w' h2 h3 h4)
end
abbrev bldT : TypeId := 182
/-- a builder at block b, its bytes in block go -/
def BIs (b : Nat) (go : Option Nat) (bs : List Value) (w : World) : Prop :=
  ∃ p v, (p = .pointer none ∨ p = .pointer (some ⟨b, 0, none⟩)) ∧ w.heap[b]? = some (.cells #[p, v] bldT (0, 0)) ∧ w.ownsRow 0 5 1 v bs.length bs ∧ v.ownBlock = go ∧ go ≠ some b
set_option maxHeartbeats 1000000 in
set_option maxRecDepth 100000 in
theorem cc_used (b : Nat) (w : World) (h0 : w.cell? ⟨b, 0, none⟩ = some (.pointer (some ⟨b, 0, none⟩))) :
    Calls Try.prog 118 #[.pointer (some ⟨b, 0, none⟩)] w fun e w' => e = .returned (.tuple #[]) ∧ w' = w := by
  obtain ⟨j, hj, _⟩ := Option.map_eq_some_iff.1 (show (Try.prog.info? bldT).map (·.size) = some 2 by kernel_rfl)
  go_enter Try.func118, Try.ntmps118
  go_wp2
  rw [Lib.run_neq_ptr_same w _ Try.underlying180 hj]
  go_wp2
  go_end0
  exact ⟨rfl, rfl⟩
set_option maxHeartbeats 1000000 in
set_option maxRecDepth 100000 in
theorem cc_fresh (b : Nat) (w : World) (h0 : w.cell? ⟨b, 0, none⟩ = some (.pointer none)) (hsh : w.shape? b = some (bldT, 2)) (hfz : w.frozen? ⟨b, 0, none⟩ = false) :
    Calls Try.prog 118 #[.pointer (some ⟨b, 0, none⟩)] w fun e w' => e = .returned (.tuple #[]) ∧ w' = w.setCell ⟨b, 0, none⟩ (.pointer (some ⟨b, 0, none⟩)) := by
  obtain ⟨j, hj, hjs⟩ := Option.map_eq_some_iff.1 (show (Try.prog.info? bldT).map (·.size) = some 2 by kernel_rfl)
  go_enter Try.func118, Try.ntmps118
  go_wp2
  rw [Lib.run_to_unsafe w ⟨b, 0, none⟩ Try.underlying180 Try.underlying189 hj (by rw [hjs]; decide) hsh (Nat.zero_lt_succ 1)]
  simp only [Result.andThen]
  rw [Oper.upon_value]
  go_wp2
  rw [run_callFunc_extern Try.func119 (by kernel_rfl) (by kernel_rfl) (by kernel_rfl) (e := Extern.AbiNoEscape.same) (by kernel_rfl)]
  rw [Lib.run_noEscape]
  simp only [Result.andThen]
  rw [Oper.upon_value]
  go_wp2
  rw [Lib.run_from_unsafe w ⟨b, 0, none⟩ Try.underlying189 Try.underlying180 hj hsh (by kernel_rfl)]
  simp only [Result.andThen]
  rw [Oper.upon_value]
  go_wp2
  go_end0
  exact ⟨rfl, rfl⟩
/-- what lies elsewhere stands -/
structure Els (b : Nat) (go : Option Nat) (w w' : World) : Prop where
  os : w'.os = w.os
  tape : w'.tape = w.tape
  output : w'.output = w.output
  size : w.heap.size ≤ w'.heap.size
  block : ∀ k, k < w.heap.size → k ≠ b → some k ≠ go → w'.heap[k]? = w.heap[k]?
theorem Els.refl (b : Nat) (go : Option Nat) (w : World) : Els b go w w := ⟨rfl, rfl, rfl, Nat.le_refl _, fun _ _ _ _ => rfl⟩
theorem Els.trans {b : Nat} {go : Option Nat} {w w1 w2 : World} (h : Els b go w w1) (k : Els b go w1 w2) : Els b go w w2 :=
  ⟨k.os.trans h.os, k.tape.trans h.tape, k.output.trans h.output, Nat.le_trans h.size k.size, fun i hi h1 h2 => (k.block i (Nat.lt_of_lt_of_le hi h.size) h1 h2).trans (h.block i hi h1 h2)⟩
theorem Els.cell (b : Nat) (go : Option Nat) (w : World) (o : Nat) (v : Value) : Els b go w (w.setCell ⟨b, o, none⟩ v) :=
  ⟨rfl, rfl, rfl, by simp [World.setCell], fun k _ hk _ => Below.heap_setCell _ _ _ _ (by simpa using hk)⟩
theorem Els.grown {b : Nat} {go : Option Nat} {w w' : World} (h : w.grownBy w' go) : Els b go w w' := ⟨h.os, h.tape, h.output, h.size, fun k hk _ h2 => h.block k hk h2⟩
theorem cc_ok (b : Nat) (go : Option Nat) (bs : List Value) (w : World) (h : BIs b go bs w) :
    Calls Try.prog 118 #[.pointer (some ⟨b, 0, none⟩)] w fun e w' => e = .returned (.tuple #[]) ∧ w.heap.size = w'.heap.size ∧ Els b go w w' ∧ ∃ v, w'.heap[b]? = some (.cells #[.pointer (some ⟨b, 0, none⟩), v] bldT (0, 0)) ∧ w'.ownsRow 0 5 1 v bs.length bs ∧ v.ownBlock = go ∧ go ≠ some b := by
  obtain ⟨p, v, hp, hb, hown, rfl, hne⟩ := h
  rcases hp with rfl | rfl
  · refine (cc_fresh b w (by rw [Lib.cell_of_heap hb]; rfl) (by simp [World.shape?, hb]) (Lib.frozen_of_heap hb 0)).mono ?_
    rintro e w' ⟨rfl, rfl⟩
    refine ⟨rfl, by simp [World.setCell], Els.cell _ _ _ _ _, v, by simp [World.setCell, Array.getElem?_modify, hb], ?_, rfl, hne⟩
    exact hown.kept (row := some b) ⟨rfl, rfl, rfl, by simp [World.setCell], fun k _ hk => Below.heap_setCell _ _ _ _ (fun e => hk (by simp [e]))⟩ (.inr hne)
  · refine (cc_used b w (by rw [Lib.cell_of_heap hb]; rfl)).mono ?_
    rintro e w' ⟨rfl, rfl⟩
    exact ⟨rfl, rfl, Els.refl _ _ _, v, hb, hown, rfl, hne⟩
set_option maxHeartbeats 2000000 in
set_option maxRecDepth 100000 in
theorem wb_ok (b : Nat) (go : Option Nat) (bs : List Value) (c : Int) (w : World) (h : BIs b go bs w) (hlen : bs.length + 1 ≤ 140737488355328) :
    Calls Try.prog 116 #[.pointer (some ⟨b, 0, none⟩), .int .u8 c] w fun e w' => e = .returned .nilIface ∧ Els b go w w' ∧ ∃ go', BIs b go' (bs ++ [.int .u8 c]) w' ∧ (go' = go ∨ ∃ g, go' = some g ∧ w.heap.size ≤ g) := by
  obtain ⟨i0, hi, hz0, hz1, hz2⟩ := info_parts (show (Try.prog.info? 5).map (fun i => (i.zero, i.size, i.bytes)) = some (some (.int .u8 0), 1, 1) by kernel_rfl)
  go_enter Try.func116, Try.ntmps116
  go_wp2_with (go_at_call 118; refine (cc_ok b go bs _ h).mono ?_)
  rintro e w1 ⟨rfl, hsz, he1, v, hbk, hown, hgo, hne⟩
  have c0 : w1.cell? ⟨b, 0, none⟩ = some (.pointer (some ⟨b, 0, none⟩)) := by rw [Lib.cell_of_heap hbk]; rfl
  have c1 : w1.cell? ⟨b, 1, none⟩ = some v := by rw [Lib.cell_of_heap hbk]; rfl
  have hlt : b < w1.heap.size := (Array.getElem?_eq_some_iff.1 hbk).1
  go_wp2_with (at_builtin; refine wpl_app _ rfl _ _ 142 rfl 5 i0 Try.underlying142 hi hz0 hz1 hz2 _ _ _ rfl (hown.alloc _) ⟨w1.heap.size, 0, none⟩ 1 (.int .u8 c) rfl ?c1 rfl (by omega) ?_)
  case c1 => simp [Addr.add]
  intro v' w2 hown' hgrow hblk
  have hb2 : w2.heap[b]? = some (.cells #[.pointer (some ⟨b, 0, none⟩), v] bldT (0, 0)) := by
    rw [hgrow.block b (by simp; omega) (fun e => hne e.symm), Lib.alloc_old w1 _ b hlt]
    exact hbk
  have d0 : w2.cell? ⟨b, 0, none⟩ = some (.pointer (some ⟨b, 0, none⟩)) := by rw [Lib.cell_of_heap hb2]; rfl
  have d1 : w2.cell? ⟨b, 1, none⟩ = some v := by rw [Lib.cell_of_heap hb2]; rfl
  have f1 : w2.frozen? ⟨b, 1, none⟩ = false := Lib.frozen_of_heap hb2 1
  obtain ⟨g, cap, rfl⟩ : ∃ g cap, v' = .slice (some ⟨g, 0, none⟩) (bs.length + 1) cap := by
    rcases hown'.2 with ⟨_, h0⟩ | ⟨g, cap, cur, hv, _⟩
    · omega
    · exact ⟨g, cap, hv⟩
  go_wp2
  go_ret
  have hsz1 : (w1.alloc (.cells #[.int .u8 c] 5)).heap.size = w1.heap.size + 1 := World.size_alloc _ _
  have hgb : g ≠ b := by
    rintro rfl
    rcases hblk with ⟨q1, q2⟩ | ⟨g', q1, q2⟩
    · exact hne (q1.symm.trans rfl)
    · simp only [Value.ownBlock, Option.some.injEq] at q1; subst q1
      have q2 : w1.heap.size + 1 ≤ g := by simpa using q2
      omega
  have hE : Els b go w1 w2 := by
    have h1 : Els b go w1 (w1.alloc (.cells #[.int .u8 c] 5)) := ⟨rfl, rfl, rfl, by rw [hsz1]; omega, fun k hk _ _ => Lib.alloc_old w1 _ k hk⟩
    exact h1.trans (Els.grown hgrow)
  refine ⟨rfl, (he1.trans hE).trans (Els.cell _ _ _ _ _), some g, ⟨.pointer (some ⟨b, 0, none⟩), .slice (some ⟨g, 0, none⟩) (bs.length + 1) cap, .inr rfl, ?_, ?_, rfl, by simpa using hgb⟩, ?_⟩
  · simp [World.setCell, Array.getElem?_modify, hb2]
  · have := hown'.kept (row := some b) (w' := w2.setCell ⟨b, 1, none⟩ (.slice (some ⟨g, 0, none⟩) (bs.length + 1) cap)) ⟨rfl, rfl, rfl, by simp [World.setCell], fun k _ hk => Below.heap_setCell _ _ _ _ (fun e => hk (by simp [e]))⟩ (.inr (by simpa [Value.ownBlock] using hgb))
    simpa using this
  · rcases hblk with ⟨q1, q2⟩ | ⟨g', q1, q2⟩
    · left; rw [← q1]; rfl
    · right
      simp only [Value.ownBlock, Option.some.injEq] at q1; subst q1
      have q2 : w1.heap.size + 1 ≤ g := by simpa using q2
      exact ⟨g, rfl, by omega⟩
set_option maxHeartbeats 2000000 in
set_option maxRecDepth 100000 in
theorem bstr_ok (b : Nat) (go : Option Nat) (l : List UInt8) (w : World) (h : BIs b go (Lib.byteCells l) w) (h0 : l ≠ []) (hl : l.length ≤ 140737488355328) :
    Calls Try.prog 117 #[.pointer (some ⟨b, 0, none⟩)] w fun e w' => e = .returned (.string ⟨l.toArray⟩) ∧ Els b go w w' := by
  obtain ⟨p, v, hp, hbk, hown, hgo, hne⟩ := h
  have hl0 : l.length ≠ 0 := by simpa using h0
  rw [Lib.byteCells_length] at hown
  obtain ⟨g, cap, cur, rfl, hg, hnc, hcm, hcs, htake⟩ : ∃ g cap cur, v = .slice (some ⟨g, 0, none⟩) l.length cap ∧ w.heap[g]? = some (.cells cur 5 (0, 0)) ∧ l.length ≤ cap ∧ cap ≤ maxLen ∧ cur.size = cap * 1 ∧ cur.toList.take (l.length * 1) = Lib.byteCells l := by
    rcases hown.2 with ⟨_, hz⟩ | ⟨g, cap, cur, hv, _, q1, q2, q3, q4, q5⟩
    · exact absurd hz hl0
    · exact ⟨g, cap, cur, hv, q1, q2, q3, q4, q5⟩
  have c1 : w.drew.cell? ⟨b, 1, none⟩ = some (.slice (some ⟨g, 0, none⟩) l.length cap) := by
    have : w.drew.heap[b]? = some (.cells #[p, .slice (some ⟨g, 0, none⟩) l.length cap] bldT (0, 0)) := hbk
    rw [Lib.cell_of_heap this]; rfl
  have hSD : (Builtin.unsafeSliceData_ #[142] 188 #[.slice (some ⟨g, 0, none⟩) l.length cap]).run Try.prog w.drew = .ok (.pointer (some ⟨g, 0, none⟩)) w.drew :=
    Lib.run_unsafeSliceData_row _ _ _ _ _ _ (by omega)
  have hUS : (Builtin.unsafeString_ #[188, 3] 9 #[.pointer (some ⟨g, 0, none⟩), .int .i64 l.length]).run Try.prog w.drew = .ok (.string ⟨l.toArray⟩) (w.drew.freeze ⟨g, 0, none⟩ l.length) := by
    refine Lib.run_unsafeString_row w.drew 188 3 9 5 Try.underlying188 (by kernel_rfl) g cur.size (by have hg' : w.drew.heap[g]? = some (.cells cur 5 (0, 0)) := hg; simp [World.shape?, hg']) l h0 (by omega) (by omega) ?_
    intro j x hx
    exact hown.cells (g := g) rfl j (.int .u8 x.toNat) (by simp [Lib.byteCells, hx])
  have hE : Els b go w (w.drew.freeze ⟨g, 0, none⟩ l.length) := by
    have hgo' : go = some g := hgo.symm
    unfold World.freeze
    rw [if_neg hl0]
    refine ⟨rfl, rfl, rfl, by simp, fun k hk _ hk2 => ?_⟩
    simp only [Array.getElem?_modify]
    rw [if_neg (by rintro rfl; exact hk2 hgo'.symm)]
    rfl
  have mixed : Try.prog.follows .mixedOrders = true := by kernel_rfl
  go_enter Try.func117, Try.ntmps117
  go_wp2
  go_region_o
  all_goals (go_wp2; go_ret; exact ⟨rfl, hE⟩)
end Go.Proofs.Ytiikndppckjmhaa.Am
