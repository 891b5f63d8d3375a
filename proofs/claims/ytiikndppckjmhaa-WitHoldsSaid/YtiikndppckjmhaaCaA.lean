/- Contracts: the document's table of calls. -/
import Derived.Test.YtiikndppckjmhaaThB
import Derived.Test.YtiikndppckjmhaaPsF
import Derived.Test.YtiikndppckjmhaaAmRf
namespace Go.Proofs.Ytiikndppckjmhaa.Am
set_option autoImplicit false
set_option linter.unusedVariables false
set_option linter.unusedSimpArgs false
set_option maxRecDepth 10000
set_option pp.maxSteps 3000
set_option pp.proofs false
theorem fOs_in {vs : List Ob} {K : List Ob → Prop} (h : K vs) : fOs vs K := by rw [fOs_eq]; exact h
theorem fS_in {s : S} {K : S → Prop} (h : K s) : fS s K := by rw [fS_eq]; exact h
theorem told_in {sl : List V} {st : List Ob} {d : Nat} {b : Bool} {K : S → Prop} (h : fVs (sl.set d (.i (.bool b))) fun s => K ⟨s, st⟩) : fS (S.told ⟨sl, st⟩ d b) K := by
  rw [fVs_eq] at h; rw [fS_eq]; exact h
theorem skip_f {sl : List V} {st : List Ob} {d j : Nat} {b : Bool} {K : S → Prop} (h : fVs ((sl.set d (.i (.bool b))).set j (.tup [])) fun s => K ⟨s, st⟩) : fS (S.told ⟨sl, st⟩ d b) (fun s => fS (s.put (some j) (.tup []) s.st) K) := by
  rw [fVs_eq] at h; rw [fS_eq, fS_eq]; exact h
theorem op_ix {P : Program} {own : Bool} {st : List Ob} {ρ : Operand → V} {t : TypeId} {x i : Operand} {id ver off len sz : Nat} {ro : Bool} {es : List (List V)} {el : TypeId} {k : IntKind} {v : Int} (hs : st[id]? = some (.row ver sz ro es))
    (hx : ρ x = .ref id ver off len) (hi : ρ i = .i (.int k v)) (he : elemA P t = some el) (ha : (aggA P el).isSome = true) (hz : sz = szA P el) :
    opA P own st ρ (.indexAddr t x i) = some (some (0 ≤ v ∧ v < len), .ptr id ver (off + v.toNat) 0, st) := by
  simp only [opA, hx, hi, indexAddrA, he, ha, hs, hz, and_self, if_true, Option.map_some]
theorem op_load {P : Program} {own : Bool} {st : List Ob} {ρ : Operand → V} {t : TypeId} {a : Operand} {id ver e j sz : Nat} {ro : Bool} {es : List (List V)} {v : V} (hs : st[id]? = some (.row ver sz ro es))
    (ha : ρ a = .ptr id ver e j) (ht : aggA P t = some false) (hv : (es.getD e []).getD j .undef = v) :
    opA P own st ρ (.load t a) = some (some (Nat.blt j (es.getD e []).length = true), v, st) := by
  simp only [opA, ha, loadA, hs, if_true, partA, ht, Option.map_some, hv]
theorem op_store {P : Program} {own : Bool} {st st' : List Ob} {ρ : Operand → V} {t : TypeId} {a x : Operand} {id ver e j sz : Nat} {es : List (List V)} {v : V} (hs : st[id]? = some (.row ver sz false es))
    (ha : ρ a = .ptr id ver e j) (hv : ρ x = v) (h' : st.set id (.row ver sz false (es.set e (putCells (es.getD e []) j v.cells))) = st') :
    opA P own st ρ (.store t a x) = some (some (((aggA P t).isSome && Nat.beq (szA P t) v.cells.length && knownAll st v.cells && Nat.ble (j + v.cells.length) (es.getD e []).length) = true), .tup [], st') := by
  simp only [opA, ha, storeA, hs, if_true, Option.map_some, hv, h']
theorem op_lit1 {P : Program} {own : Bool} {st : List Ob} {ρ : Operand → V} {t el : TypeId} {x : Operand} {z : V} {id ver n sz : Nat} {ro : Bool} {es : List (List V)} (hs : st[id]? = some (.row ver sz ro es)) (hx : ρ x = .ref id ver 0 n) (he : elemA P t = some el) (hz : zeroA P el = some [z])
    (hg : (aggA P el).isSome = true) (h1 : szA P el = 1) : opA P own st ρ (.buildSlice t 1 #[(0, x)]) = some (some (true = true), .ref st.length 1 0 1, st ++ [.row 1 1 false [[.ref id ver 0 n]]]) := by
  have hk : (V.ref id ver 0 n).shaped st = true := by simp [V.shaped, V.known, hs]
  simp only [opA, List.map_cons, List.map_nil, hx, litA, he, hz, hg, h1, List.length_singleton, litEs, hk, if_true]
  simp [litEs, toIss, toIs, V.toI, V.cells, maxLen]
theorem op_app1 {P : Program} {own : Bool} {st st' : List Ob} {ρ : Operand → V} {t t1 : TypeId} {s x : Operand} {id ver len by_ idx verx : Nat} {ro : Bool} {es : List (List V)} {v : V} (hsx : st[idx]? = some (.row verx 1 ro [[v]])) (hss : st[id]? = some (.row ver 1 false es))
    (hs : ρ s = .ref id ver 0 len) (hx : ρ x = .ref idx verx 0 1) (he : elInfo P t = some (1, by_)) (ht : srcType P t1 = true) (h' : st.set id (.row (ver + 1) 1 false (es ++ [[v]])) = st') :
    opA P own st ρ (.call { callee := .builtin .append, args := #[s, x], argTypes := #[t, t1] }) = some (some ((∀ cs ∈ [[v]], knownAll st cs = true) ∧ len = es.length ∧ (len + 1) * by_ ≤ 140737488355328 ∧ len + 1 ≤ maxLen), .ref id (ver + 1) 0 (len + 1), st') := by
  have e : (([[v]] : List (List V)).drop 0).take 1 = [[v]] := rfl
  simp only [opA, List.map_cons, List.map_nil, builtinA, hs, hx, appA, he, ht, if_true, srcA, hsx, hss, and_self, e, Option.map_some, List.length_singleton, h']
theorem st_ok {P : Program} {st : List Ob} {t : TypeId} (ha : (aggA P t).isSome = true) (hz : szA P t = 1) (r : List Nat) (a : Nat) (h : a < r.length) (n : Int) : ((aggA P t).isSome && Nat.beq (szA P t) (V.i (.int .i64 n)).cells.length && knownAll st (V.i (.int .i64 n)).cells && Nat.ble (0 + (V.i (.int .i64 n)).cells.length) ((lift (r.map fun n : Nat => [I.int .i64 n])).getD (0 + a) []).length) = true := by
  rw [ha, hz, Nat.zero_add a, lift_getD (fun n : Nat => [I.int .i64 n]) r h]; rfl
theorem Le.pad {n : Nat} {sl : List V} {st : List Ob} : Le n ⟨sl, st⟩ ⟨sl, st ++ [.row 1 0 false []]⟩ := by
  intro D μ a w hn hr
  obtain ⟨r1, r2, r3, r4⟩ := new_row 1 hr.st (Grow.refl w) (x := none) (sz' := 0) (es' := []) (.inl ⟨rfl, rfl⟩)
  exact ⟨_, ⟨hr.dfr, ⟨hr.sl.1, fun j v hj => r4 _ _ (hr.sl.2 j v hj)⟩, r1⟩, r2, r3.mono hn⟩
theorem Le.pads {n : Nat} {sl : List V} {st : List Ob} : ∀ k, Le n ⟨sl, st⟩ ⟨sl, st ++ List.replicate k (.row 1 0 false [])⟩
  | 0 => by rw [List.replicate_zero, List.append_nil]; exact Le.refl _ _
  | k + 1 => by rw [List.replicate_succ', ← List.append_assoc]; exact (Le.pads k).trans Le.pad
def elN (n : Nat) : List I := [.int .i64 n]
def rowB (r : List Nat) : Ob := .row 1 1 false (lift (r.map elN))
def refs (n k : Nat) : List (List V) := (List.range k).map fun j => [.ref (j + 16) 1 0 n]
/-- the table's rows, each in its own place, behind sixteen others (so that their numbers are sixteen and more) -/
def tabG (p : Pg) (v : Nat) (es : List (List V)) (X : List Ob) : List Ob := pgB p :: .row v 1 false es :: .row 1 0 false [] :: .row 1 0 false [] :: .row 1 0 false [] :: .row 1 0 false [] :: .row 1 0 false [] :: .row 1 0 false [] :: .row 1 0 false [] :: .row 1 0 false [] ::
  .row 1 0 false [] :: .row 1 0 false [] :: .row 1 0 false [] :: .row 1 0 false [] :: .row 1 0 false [] :: .row 1 0 false [] :: X
def caTabB (p : Pg) (n k : Nat) (X : List Ob) : List Ob := tabG p 1 (refs n k) X
theorem tab_set (p : Pg) (n c : Nat) (X : List Ob) (k : Nat) (r : List Nat) (a : Nat) (hk : X[k]? = some (rowB r)) (ha : a < r.length) :
    (caTabB p n c X).set (k + 16) (.row 1 1 false ((lift (r.map elN)).set (0 + a) (putCells ((lift (r.map elN)).getD (0 + a) []) 0 (V.i (.int .i64 1)).cells))) = caTabB p n c (X.set k (rowB (r.set a 1))) := by
  rw [Nat.zero_add, lift_getD elN r ha]
  have e : putCells ((elN r[a]).map V.i) 0 (V.i (.int .i64 1)).cells = (elN 1).map V.i := rfl
  rw [e, lift_set elN r a 1]
  rfl
theorem tab_get (p : Pg) (n c : Nat) (X : List Ob) (k : Nat) : (caTabB p n c X)[k + 16]? = X[k]? := rfl
theorem rowL_snoc (L : List Nd) (x : Nd) (row : List Nat) : rowL (L ++ [x]) row = if x.1 = 7 then (rowL L row).set x.2.1.toNat 1 else rowL L row := by
  rw [rowL, List.foldl_append]; rfl
theorem up_rows (d : Nat → Nat) (k : Nat) (hd : ∀ j, k ≤ j → d j = 0) : ∀ (rs : List (List Nat)), upSt d k (rs.map rowB) = rs.map rowB := by
  intro rs
  induction rs generalizing k with
  | nil => rfl
  | cons r rs ih =>
    rw [List.map_cons, upSt, ih (k + 1) (fun j hj => hd j (by omega))]
    simp only [rowB, Ob.up, map_up_lift, hd k (Nat.le_refl _)]
theorem up_refs (d : Nat → Nat) (n k : Nat) (hd : ∀ j, 2 ≤ j → d j = 0) : (refs n k).map (V.up.upAll d) = refs n k := by
  simp only [refs, List.map_map]
  refine List.map_congr_left fun j _ => ?_
  simp [V.up.upAll, V.up, hd (j + 16) (by omega)]
theorem refs_snoc (n k : Nat) : refs n (k + 1) = refs n k ++ [[.ref (k + 16) 1 0 n]] := by simp [refs, List.range_succ]
theorem refs_len (n k : Nat) : (refs n k).length = k := by simp [refs]
theorem tab_len (p : Pg) (n k : Nat) (X : List Ob) : (caTabB p n k X).length = X.length + 16 := rfl
theorem tab_cl (p : Pg) (n : Nat) (rs : List (List Nat)) (k : Nat) (hk : k ≤ rs.length) : ∀ o ∈ caTabB p n k (rs.map rowB), o.cl (caTabB p n k (rs.map rowB)).length := by
  intro o ho
  rw [tab_len, List.length_map]
  simp only [caTabB, tabG, List.mem_cons] at ho
  have hnil : Ob.cl (rs.length + 16) (.row 1 0 false []) := fun cs h => by cases h
  rcases ho with rfl | rfl | rfl | rfl | rfl | rfl | rfl | rfl | rfl | rfl | rfl | rfl | rfl | rfl | rfl | rfl | ho
  · exact pgB_cl p _
  · intro cs hcs
    simp only [refs, List.mem_map, List.mem_range] at hcs
    obtain ⟨j, hj, rfl⟩ := hcs
    simp [V.cl.clAll, V.cl]; omega
  · exact hnil
  · exact hnil
  · exact hnil
  · exact hnil
  · exact hnil
  · exact hnil
  · exact hnil
  · exact hnil
  · exact hnil
  · exact hnil
  · exact hnil
  · exact hnil
  · exact hnil
  · exact hnil
  · simp only [List.mem_map] at ho
    obtain ⟨r, _, rfl⟩ := ho
    exact row_cl 1 1 (r.map elN) _ _ (by simp [rowB])
theorem map_get (M : List (List Nat)) (a : Nat) (h : a < M.length) : (M.map rowB)[a]? = some (rowB (M.getD a [])) := by
  simp [List.getD_eq_getElem?_getD, h]
theorem refs_get (n k a : Nat) (h : a < k) : (refs n k).getD (0 + ((a : Nat) : Int).toNat) [] = [.ref (a + 16) 1 0 n] := by
  rw [Nat.zero_add, Int.toNat_natCast]
  simp [refs, List.getD_eq_getElem?_getD, h]
theorem cell_get (M : List (List Nat)) (a k : Nat) (h : k < (M.getD a []).length) : (lift ((M.getD a []).map elN)).getD (0 + ((k : Nat) : Int).toNat) [] = [.i (.int .i64 (cell M a k : Nat))] := by
  rw [Nat.zero_add, Int.toNat_natCast, lift_getD elN _ h]
  have e : cell M a k = (M.getD a [])[k] := by rw [cell, List.getD_eq_getElem?_getD, List.getElem?_eq_getElem h]; rfl
  rw [e]; rfl
theorem set_rows (M : List (List Nat)) (a b : Nat) : (M.map rowB).set a (rowB ((M.getD a []).set b 1)) = (put1 M a b).map rowB := by
  rw [put1, List.map_set]
theorem Sq.stepB {n : Nat} {M : List (List Nat)} (h : Sq n M) {a : Nat} (ha : a < n) (k b : Nat) : Sq n (Am.stepB k a M b) := by
  unfold Am.stepB
  split
  · exact h.put ha
  · exact h
theorem fold_id {α : Type} (f : α → Nat → α) (x : α) : (List.range 0).foldl f x = x := rfl
/-! The table told as data. -/
def dRefs (n : Nat) (M : List (List Nat)) (j : Nat) : List (List V) := (List.range n).map fun i => if i < j then [.i (.sl ((M.getD i []).map elN))] else [.ref (i + 16) 1 0 n]
def dRows (n : Nat) (M : List (List Nat)) (j : Nat) : List Ob := (List.range n).map fun i => if i < j then .dead else rowB (M.getD i [])
def encM (M : List (List Nat)) : List (List I) := M.map fun r => [.sl (r.map elN)]
theorem dRefs_zero (n : Nat) (M : List (List Nat)) : dRefs n M 0 = refs n n := by
  simp only [dRefs, refs]
  refine List.map_congr_left fun i _ => ?_
  rw [if_neg (by omega)]
theorem dRows_zero {n : Nat} {M : List (List Nat)} (h : M.length = n) : dRows n M 0 = M.map rowB := by
  refine List.ext_getElem (by simp [dRows, h]) fun i h1 h2 => ?_
  have : i < M.length := by simpa using h2
  simp [dRows, List.getD_eq_getElem?_getD, this]
theorem dRefs_full {n : Nat} {M : List (List Nat)} (h : M.length = n) : dRefs n M n = lift (encM M) := by
  refine List.ext_getElem (by simp [dRefs, lift, encM, h]) fun i h1 h2 => ?_
  have hn : i < n := by simpa [dRefs] using h1
  have : i < M.length := by omega
  simp [dRefs, lift, encM, List.getD_eq_getElem?_getD, this, hn]
theorem dat_lift (id ver : Nat) (is es : List (List I)) : (lift es).map (V.dat.datAll id ver is) = lift es := by
  simp only [lift, List.map_map]
  refine List.map_congr_left fun cs _ => ?_
  simp only [Function.comp]
  induction cs with
  | nil => rfl
  | cons c cs ih => simp [V.dat.datAll, V.dat, ih]
theorem dat_refs {n : Nat} {M : List (List Nat)} (hs : Sq n M) (j : Nat) (hj : j < n) : (dRefs n M j).map (V.dat.datAll (j + 16) 1 ((M.getD j []).map elN)) = dRefs n M (j + 1) := by
  simp only [dRefs, List.map_map]
  refine List.map_congr_left fun i hi => ?_
  have hi : i < n := by simpa using hi
  simp only [Function.comp]
  by_cases h1 : i < j
  · rw [if_pos h1, if_pos (by omega)]; rfl
  · rw [if_neg h1]
    by_cases h2 : i = j
    · subst h2
      rw [if_pos (by omega)]
      simp only [V.dat.datAll, V.dat, if_true, List.drop_zero]
      rw [List.take_of_length_le (by rw [List.length_map, hs.2 i hi]; exact Nat.le_refl _)]
    · rw [if_neg (by omega)]
      simp only [V.dat.datAll, V.dat]
      rw [if_neg (by omega)]
theorem dat_rows (n : Nat) (M : List (List Nat)) (j : Nat) (hj : j < n) (is : List (List I)) : ((dRows n M j).map (Ob.dat (j + 16) 1 is)).set j .dead = dRows n M (j + 1) := by
  refine List.ext_getElem (by simp [dRows]) fun i h1 h2 => ?_
  have hi : i < n := by simpa [dRows] using h2
  rw [List.getElem_set]
  simp only [dRows, List.getElem_map, List.getElem_range]
  by_cases h : j = i
  · subst h; rw [if_pos rfl, if_pos (by omega)]
  · rw [if_neg h]
    by_cases h3 : i < j
    · rw [if_pos h3, if_pos (by omega)]; rfl
    · rw [if_neg h3, if_neg (by omega)]
      simp only [rowB, Ob.dat, dat_lift]
def caEndS (n : Nat) : List V := mkS 96 [(2, .ref 1 1 0 n)]
theorem data_step (p : Pg) {n : Nat} {M : List (List Nat)} (hs : Sq n M) (j : Nat) (hj : j < n) : Le 0 ⟨caEndS n, tabG p 1 (dRefs n M j) (dRows n M j)⟩ ⟨caEndS n, tabG p 1 (dRefs n M (j + 1)) (dRows n M (j + 1))⟩ := by
  refine Le.data (j + 16) 1 1 ((M.getD j []).map elN) ?_ ?_ ?_
  · show (dRows n M j)[j]? = _
    simp [dRows, hj, rowB]
  · simp [leS, caEndS, mkS, V.dat]
  · rw [← dat_refs hs j hj, ← dat_rows n M j hj ((M.getD j []).map elN)]
    rfl
theorem data_all (p : Pg) {n : Nat} {M : List (List Nat)} (hs : Sq n M) : ∀ j, j ≤ n → Le 0 ⟨caEndS n, caTabB p n n (M.map rowB)⟩ ⟨caEndS n, tabG p 1 (dRefs n M j) (dRows n M j)⟩
  | 0, _ => by rw [dRefs_zero, dRows_zero hs.1]; exact Le.refl _ _
  | j + 1, h => (data_all p hs j (by omega)).trans (data_step p hs j (by omega))
theorem data_tab (p : Pg) {n : Nat} {M : List (List Nat)} (hs : Sq n M) : Le 0 ⟨caEndS n, caTabB p n n (M.map rowB)⟩ ⟨mkS 96 [(2, .i (.sl (encM M)))], ((tabG p 1 (lift (encM M)) (dRows n M n)).map (Ob.dat 1 1 (encM M))).set 1 .dead⟩ := by
  refine (data_all p hs n (Nat.le_refl _)).trans ?_
  rw [dRefs_full hs.1]
  refine Le.data 1 1 1 (encM M) rfl ?_ rfl
  have hl : (encM M).length = n := by rw [encM, List.length_map, hs.1]
  simp [leS, caEndS, mkS, V.dat]
  rw [List.take_of_length_le (by omega)]
set_option maxHeartbeats 2000000 in
theorem calls_i (p : Pg) (n f : Nat) (L : List Nd) (X : List Ob) (hn : n ≤ 1000) (hf : f < n) (hXl : X.length = f) (eL : (p.fs.map encF).getD (f : Int).toNat [] = encF L) (hfl : f < p.fs.length) (hLl : L.length ≤ 1000) (hLc : ∀ y ∈ L, y.1 = 7 → 0 ≤ y.2.1 ∧ y.2.1 < n) :
    W Try.prog G0 0 (.loop (lp Try.f72 1)) (fun e s' => e = .exit 2 ∧ s' = ⟨(mkS 96 [(1, .ptr 0 0 0 0), (3, .i (.int .i64 n)), (4, .ref 1 1 0 f), (5, .i (.int .i64 f)), (6, .ref (f + 16) 1 0 n)]), caTabB p n f (X ++ [rowB (rowL L (List.replicate n 0))])⟩)
      ⟨mkS 96 [(1, .ptr 0 0 0 0), (3, .i (.int .i64 n)), (4, .ref 1 1 0 f), (5, .i (.int .i64 f)), (6, .ref (f + 16) 1 0 n), (7, .i (.int .i64 0))], caTabB p n f (X ++ [rowB (List.replicate n 0)])⟩ := by
  refine W.weak (loop_ok (α := Nat) (fun i => ⟨mkS 96 [(1, .ptr 0 0 0 0), (3, .i (.int .i64 n)), (4, .ref 1 1 0 f), (5, .i (.int .i64 f)), (6, .ref (f + 16) 1 0 n), (7, .i (.int .i64 i))], caTabB p n f (X ++ [rowB (rowL (L.take i) (List.replicate n 0))])⟩)
    (fun i => i ≤ L.length) (fun i => L.length - i) 0 (Nat.zero_le _) (by rw [List.take_zero]; exact Le.refl _ _) (fun i hi => wpx_ok (own := own0) _ _ _ ?_))
  repeat ((conv => whnf); first | (refine Br.t ?_; try with_reducible refine told_in ?_) | (refine Br.f ?_; first | refine skip_f ?_ | skip) | refine ⟨rfl, ?_⟩ | refine fOs_in ?_)
  conv => whnf
  rw [eL]
  refine ⟨⟨by omega, by simp; omega, rfl⟩, ?_⟩
  repeat ((conv => whnf); first | (refine Br.t ?_; try with_reducible refine told_in ?_) | (refine Br.f ?_; first | refine skip_f ?_ | skip) | refine ⟨rfl, ?_⟩ | refine fOs_in ?_)
  conv => whnf
  refine Br.mk (fun g1 => ?_) (fun g1 => ?_)
  · have g1 : i < L.length := by simpa using g1
    obtain ⟨y, hy⟩ : ∃ y, y = L[i] := ⟨_, rfl⟩
    have hym : y ∈ L := hy ▸ List.getElem_mem g1
    have ey : (L.map encNd).getD (i : Int).toNat [] = encNd y := by rw [hy]; exact getD_enc g1
    have hyc := hLc y hym
    have et : L.take (i + 1) = L.take i ++ [y] := by rw [hy]; simp
    repeat ((conv => whnf); first | (refine Br.t ?_; try with_reducible refine told_in ?_) | (refine Br.f ?_; first | refine skip_f ?_ | skip) | refine ⟨rfl, ?_⟩ | refine fOs_in ?_)
    conv => whnf
    rw [eL]
    refine ⟨⟨by omega, by simp; omega, rfl⟩, ?_⟩
    repeat ((conv => whnf); first | (refine Br.t ?_; try with_reducible refine told_in ?_) | (refine Br.f ?_; first | refine skip_f ?_ | skip) | refine ⟨rfl, ?_⟩ | refine fOs_in ?_)
    conv => whnf
    rw [ey]
    refine ⟨⟨by omega, by simp; omega, rfl⟩, ?_⟩
    repeat ((conv => whnf); first | (refine Br.t ?_; try with_reducible refine told_in ?_) | (refine Br.f ?_; first | refine skip_f ?_ | skip) | refine ⟨rfl, ?_⟩ | refine fOs_in ?_)
    conv => whnf
    refine Br.mk (fun g7 => ?_) (fun g7 => ?_)
    · have g7 : y.1 = 7 := by simpa using g7
      obtain ⟨a1, a2⟩ := hyc g7
      repeat ((conv => whnf); first | (refine Br.t ?_; try with_reducible refine told_in ?_) | (refine Br.f ?_; first | refine skip_f ?_ | skip) | refine ⟨rfl, ?_⟩ | refine fOs_in ?_)
      conv => whnf
      rw [eL]
      refine ⟨⟨by omega, by simp; omega, rfl⟩, ?_⟩
      repeat ((conv => whnf); first | (refine Br.t ?_; try with_reducible refine told_in ?_) | (refine Br.f ?_; first | refine skip_f ?_ | skip) | refine ⟨rfl, ?_⟩ | refine fOs_in ?_)
      conv => whnf
      rw [ey]
      refine ⟨⟨by omega, by simp; omega, rfl⟩, ?_⟩
      repeat ((conv => whnf); first | (refine Br.t ?_; try with_reducible refine told_in ?_) | (refine Br.f ?_; first | refine skip_f ?_ | skip) | refine ⟨rfl, ?_⟩ | refine fOs_in ?_)
      conv => whnf
      have hXr : (X ++ [rowB (rowL (L.take i) (List.replicate n 0))])[f]? = some (rowB (rowL (L.take i) (List.replicate n 0))) := by
        rw [List.getElem?_append_right (by omega), hXl, Nat.sub_self]
        rfl
      have hr := (tab_get p n f (X ++ [rowB (rowL (L.take i) (List.replicate n 0))]) f).trans hXr
      have hst := tab_set p n f (X ++ [rowB (rowL (L.take i) (List.replicate n 0))]) f _ y.2.1.toNat hXr (by rw [rowL_len, List.length_replicate]; omega)
      rw [List.set_append_right _ _ (by omega), hXl, Nat.sub_self] at hst
      conv in (opA _ _ _ _ _) => tactic => exact op_ix hr rfl rfl rfl rfl rfl
      repeat ((conv => whnf); first | (refine Br.t ?_; try with_reducible refine told_in ?_) | (refine Br.f ?_; first | refine skip_f ?_ | skip) | refine ⟨rfl, ?_⟩ | refine fOs_in ?_)
      conv => whnf
      refine ⟨⟨by omega, by omega⟩, ?_⟩
      repeat ((conv => whnf); first | (refine Br.t ?_; try with_reducible refine told_in ?_) | (refine Br.f ?_; first | refine skip_f ?_ | skip) | refine ⟨rfl, ?_⟩ | refine fOs_in ?_)
      conv => whnf
      conv in (opA _ _ _ _ _) => tactic => exact op_store hr rfl rfl hst
      repeat ((conv => whnf); first | (refine Br.t ?_; try with_reducible refine told_in ?_) | (refine Br.f ?_; first | refine skip_f ?_ | skip) | refine ⟨rfl, ?_⟩ | refine fOs_in ?_)
      conv => whnf
      refine ⟨?_, ?_⟩
      · exact st_ok rfl rfl _ _ (by rw [rowL_len, List.length_replicate]; omega) _
      · repeat ((conv => whnf); first | (refine Br.t ?_; try with_reducible refine told_in ?_) | (refine Br.f ?_; first | refine skip_f ?_ | skip) | refine ⟨rfl, ?_⟩ | refine fOs_in ?_)
        conv => whnf
        refine ⟨i + 1, by omega, by omega, ?_⟩
        rw [et, rowL_snoc, if_pos g7]
        refine Le.slots ?_
        simp [leS, mkS]
        exact i64_id (by omega) (by omega)
    · have g7 : y.1 ≠ 7 := by simpa using g7
      repeat ((conv => whnf); first | (refine Br.t ?_; try with_reducible refine told_in ?_) | (refine Br.f ?_; first | refine skip_f ?_ | skip) | refine ⟨rfl, ?_⟩ | refine fOs_in ?_)
      conv => whnf
      refine ⟨i + 1, by omega, by omega, ?_⟩
      rw [et, rowL_snoc, if_neg g7]
      refine Le.slots ?_
      simp [leS, mkS]
      exact i64_id (by omega) (by omega)
  · have g1 : i = L.length := by simp at g1; omega
    subst g1
    repeat ((conv => whnf); first | (refine Br.t ?_; try with_reducible refine told_in ?_) | (refine Br.f ?_; first | refine skip_f ?_ | skip) | refine ⟨rfl, ?_⟩ | refine fOs_in ?_)
    conv => whnf
    rw [List.take_length]
    refine ⟨_, Le.slots ?_, rfl, rfl⟩
    simp [leS, mkS]
end Go.Proofs.Ytiikndppckjmhaa.Am
