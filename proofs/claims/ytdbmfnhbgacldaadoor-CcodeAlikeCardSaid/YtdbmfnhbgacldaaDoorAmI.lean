/- Operations of the model on abstract states: numbers, comparisons, conversions, lengths. -/
import Derived.Test.YtdbmfnhbgacldaaDoorAmH
import Derived.Laws.StructEq
import Derived.ChangeKeysEq
namespace Go.Proofs.YtdbmfnhbgacldaaDoor.Am
set_option autoImplicit false
set_option linter.unusedVariables false
set_option linter.unusedSimpArgs false
section
variable {P : Program} {D : Nat → Prop} {μ : Mu} {st : List Ob} {w : World}

/-- a condition, if there is one -/
def sd (p : Option Prop) : Prop := ∀ q, p = some q → q

/-- whole numbers -/
def intBin (op : BinOp) (k : IntKind) (a b : Int) : Option (Option Prop × I) :=
  match op with
  | .add => some (none, .int k (k.wrap (a + b)))
  | .sub => some (none, .int k (k.wrap (a - b)))
  | .mul => some (none, .int k (k.wrap (a * b)))
  | .quo => some (some (b ≠ 0), .int k (k.wrap (a.tdiv b)))
  | .rem => some (some (b ≠ 0), .int k (a.tmod b))
  | .and => some (none, .int k (k.wrap ((BitVec.ofInt k.bits a &&& BitVec.ofInt k.bits b).toNat : Int)))
  | .or => some (none, .int k (k.wrap ((BitVec.ofInt k.bits a ||| BitVec.ofInt k.bits b).toNat : Int)))
  | .xor => some (none, .int k (k.wrap ((BitVec.ofInt k.bits a ^^^ BitVec.ofInt k.bits b).toNat : Int)))
  | .andNot => some (none, .int k (k.wrap ((BitVec.ofInt k.bits a &&& ~~~ BitVec.ofInt k.bits b).toNat : Int)))
  | .eql => some (none, .bool (a == b))
  | .neq => some (none, .bool (a != b))
  | .lss => some (none, .bool (decide (a < b)))
  | .leq => some (none, .bool (decide (a ≤ b)))
  | .gtr => some (none, .bool (decide (a > b)))
  | .geq => some (none, .bool (decide (a ≥ b)))
  | _ => none

def shiftBin (op : BinOp) (k : IntKind) (a b : Int) : Option (Option Prop × I) :=
  match op with
  | .shl => some (some (0 ≤ b), .int k (k.wrap (a * 2 ^ (min b.toNat k.bits))))
  | .shr => some (some (0 ≤ b), .int k (a.fdiv (2 ^ (min b.toNat k.bits))))
  | _ => none

/-- the kind of a type of one cell: 0 a whole number, 1 a truth value, 2 a string -/
def scalarT (P : Program) (t : TypeId) : Option Nat := match P.info? t, P.underlying t with
  | some _, some (.int _) => some 0 | some _, some .bool => some 1 | some _, some .string => some 2 | _, _ => none
def cellEq : Nat → V → V → Option Bool
  | 0, .i (.int k a), .i (.int k' b) => if k = k' then some (a == b) else none
  | 1, .i (.bool a), .i (.bool b) => some (a == b)
  | 2, .i (.str a), .i (.str b) => some (a.data.toList == b.data.toList)
  | _, _, _ => none
def cellsEq : List Nat → List V → List V → Option Bool
  | [], [], [] => some true
  | k :: ks, x :: xs, y :: ys => match cellEq k x y, cellsEq ks xs ys with | some a, some b => some (a && b) | _, _ => none
  | _, _, _ => none
def fieldKinds (P : Program) : Nat → List Field → Option (List Nat)
  | _, [] => some []
  | n, f :: fs => if f.name ≠ "_" ∧ f.offset = n then match scalarT P f.type, fieldKinds P (n + 1) fs with | some k, some ks => some (k :: ks) | _, _ => none else none
def eqKinds (P : Program) (t : TypeId) : Option (List Nat) :=
  if P.eqGuardType P.depth t = false then
    match P.underlying t with
    | some (.struct fs) => if P.stoodInHeld t = false then fieldKinds P 0 fs.toList else none
    | some (.array n e) => match P.info? e, scalarT P e with
      | some it, some k => if it.size = 1 then some (List.replicate n k) else none
      | _, _ => none
    | _ => none
  else none

theorem scalarT_agg {t : TypeId} {k : Nat} (h : scalarT P t = some k) : aggA P t = some false := by
  unfold scalarT at h
  split at h
  · rename_i i q hi hu; simp [aggA, hi, hu]
  · rename_i i hi hu; simp [aggA, hi, hu]
  · rename_i i hi hu; simp [aggA, hi, hu]
  · cases h

theorem bytes_beq (a b : ByteArray) : (a == b) = (a.data.toList == b.data.toList) := by
  rw [beq_toListBytes, ByteArray.toList_eq, ByteArray.toList_eq]

theorem cellEq_ok {Q : Nat → Prop} {t : TypeId} {k : Nat} (ht : scalarT P t = some k) {x y : V} {x' y' : Value} {b : Bool} (h : cellEq k x y = some b) (hx : vrel μ st Q w x x') (hy : vrel μ st Q w y y') (d : Nat) :
    (Op.equalIn (d + 1) t x' y').run P w = .ok b w := by
  unfold cellEq at h
  split at h
  · cases hx with | i hx => cases hx with | int => cases hy with | i hy => cases hy with | int =>
      split at h
      · rename_i hk; subst hk; cases h
        unfold scalarT at ht
        split at ht
        · rename_i hu; exact run_equalIn_int w d t _ _ _ _ hu
        · cases ht
        · cases ht
        · cases ht
      · cases h
  · cases hx with | i hx => cases hx with | bool => cases hy with | i hy => cases hy with | bool =>
      cases h
      unfold scalarT at ht
      split at ht
      · cases ht
      · rename_i hu; exact run_equalIn_bool w d t _ _ hu
      · cases ht
      · cases ht
  · cases hx with | i hx => cases hx with | str => cases hy with | i hy => cases hy with | str =>
      cases h
      unfold scalarT at ht
      split at ht
      · cases ht
      · cases ht
      · rename_i hu; simp [Op.equalIn, run_underlying hu, bytes_beq]
      · cases ht
  · cases h

theorem part_scalar {t : TypeId} {k : Nat} (ht : scalarT P t = some k) {cs : Array Value} {j : Nat} (hj : j < cs.size) : (part t cs j).run P w = .ok (cs.getD j Go.undef) w := by
  simp only [part, runAgg (scalarT_agg ht), Sem.run_bind, Result.andThen_ok, Bool.false_eq_true, if_false]
  rw [getD_of_lt hj]; rfl

theorem fields_ok {Q : Nat → Prop} (d : Nat) {xs' ys' : Array Value} : ∀ (fs : List Field) (n : Nat) (ks : List Nat) (xs ys : List V) (b : Bool), fieldKinds P n fs = some ks → cellsEq ks xs ys = some b → xs'.size = n + xs.length → ys'.size = n + ys.length →
    (∀ (j : Nat) (v : V), xs[j]? = some v → vrel μ st Q w v (xs'.getD (n + j) Go.undef)) → (∀ (j : Nat) (v : V), ys[j]? = some v → vrel μ st Q w v (ys'.getD (n + j) Go.undef)) →
    (Op.eqFields (d + 1) xs' ys' fs).run P w = .ok b w
  | [], n, ks, xs, ys, b, hk, he, h1, h2, h3, h4 => by
    simp only [fieldKinds, Option.some.injEq] at hk; subst hk
    cases xs <;> cases ys <;> simp [cellsEq] at he
    subst he; rfl
  | f :: fs, n, ks, xs, ys, b, hk, he, h1, h2, h3, h4 => by
    simp only [fieldKinds] at hk
    split at hk
    · rename_i hc
      obtain ⟨hn, ho⟩ := hc
      split at hk
      · rename_i k ks' hk1 hk2
        cases hk
        cases xs with
        | nil => simp [cellsEq] at he
        | cons x xs =>
          cases ys with
          | nil => simp [cellsEq] at he
          | cons y ys =>
            simp only [cellsEq] at he
            split at he
            · rename_i a c ha hc
              cases he
              simp only [List.length_cons] at h1 h2
              have hx := h3 0 x rfl
              have hy := h4 0 y rfl
              have ih := fields_ok (Q := Q) d (xs' := xs') (ys' := ys') fs (n + 1) ks' xs ys c hk2 hc (by omega) (by omega) (fun j v hj => by have := h3 (j + 1) v (by simpa using hj); rwa [show n + (j + 1) = n + 1 + j by omega] at this)
                (fun j v hj => by have := h4 (j + 1) v (by simpa using hj); rwa [show n + (j + 1) = n + 1 + j by omega] at this)
              have he1 := cellEq_ok (P := P) hk1 ha hx hy d
              simp only [Nat.add_zero] at he1
              have hp1 := part_scalar (P := P) (w := w) hk1 (cs := xs') (j := n) (by omega)
              have hp2 := part_scalar (P := P) (w := w) hk1 (cs := ys') (j := n) (by omega)
              rw [← ho] at hp1 hp2 he1
              cases a with
              | true => simp [Op.eqFields, hn, hp1, hp2, he1, ih, -Array.getD_eq_getD_getElem?]
              | false => simp [Op.eqFields, hn, hp1, hp2, he1, -Array.getD_eq_getD_getElem?]
            · cases he
      · cases hk
    · cases hk

theorem items_ok {Q : Nat → Prop} (d : Nat) {e : TypeId} {k : Nat} (ht : scalarT P e = some k) {xs' ys' : Array Value} : ∀ (m n : Nat) (xs ys : List V) (b : Bool), cellsEq (List.replicate m k) xs ys = some b → xs'.size = n + xs.length → ys'.size = n + ys.length →
    (∀ (j : Nat) (v : V), xs[j]? = some v → vrel μ st Q w v (xs'.getD (n + j) Go.undef)) → (∀ (j : Nat) (v : V), ys[j]? = some v → vrel μ st Q w v (ys'.getD (n + j) Go.undef)) →
    (Op.eqItems (d + 1) e 1 xs' ys' (List.range' n m)).run P w = .ok b w
  | 0, n, xs, ys, b, he, h1, h2, h3, h4 => by
    cases xs <;> cases ys <;> simp [cellsEq] at he
    subst he; rfl
  | m + 1, n, xs, ys, b, he, h1, h2, h3, h4 => by
    rw [List.replicate_succ] at he
    cases xs with
    | nil => simp [cellsEq] at he
    | cons x xs =>
      cases ys with
      | nil => simp [cellsEq] at he
      | cons y ys =>
        simp only [cellsEq] at he
        split at he
        · rename_i a c ha hc
          cases he
          simp only [List.length_cons] at h1 h2
          have hx := h3 0 x rfl
          have hy := h4 0 y rfl
          have ih := items_ok (Q := Q) d ht (xs' := xs') (ys' := ys') m (n + 1) xs ys c hc (by omega) (by omega) (fun j v hj => by have := h3 (j + 1) v (by simpa using hj); rwa [show n + (j + 1) = n + 1 + j by omega] at this)
            (fun j v hj => by have := h4 (j + 1) v (by simpa using hj); rwa [show n + (j + 1) = n + 1 + j by omega] at this)
          have he1 := cellEq_ok (P := P) ht ha hx hy d
          simp only [Nat.add_zero] at he1
          have hp1 := part_scalar (P := P) (w := w) ht (cs := xs') (j := n) (by omega)
          have hp2 := part_scalar (P := P) (w := w) ht (cs := ys') (j := n) (by omega)
          rw [List.range'_succ]
          cases a with
          | true => simp [Op.eqItems, hp1, hp2, he1, ih, -Array.getD_eq_getD_getElem?]
          | false => simp [Op.eqItems, hp1, hp2, he1, -Array.getD_eq_getD_getElem?]
        · cases he

def aggEqA (P : Program) (t : TypeId) (cs ds : List V) : Option Bool := match eqKinds P t with | some ks => cellsEq ks cs ds | none => none
theorem aggEqA_ok {Q : Nat → Prop} {t : TypeId} {cs ds : List V} {b : Bool} {cs' ds' : Array Value} (h : aggEqA P t cs ds = some b) (hc : vrels μ st Q w cs cs') (hd : vrels μ st Q w ds ds') (d : Nat) :
    (Op.equalIn (d + 2) t (.agg cs') (.agg ds')).run P w = .ok b w ∧ P.eqGuardType P.depth t = false := by
  unfold aggEqA at h
  split at h
  · rename_i ks hks
    unfold eqKinds at hks
    split at hks
    · rename_i hg
      refine ⟨?_, hg⟩
      split at hks
      · rename_i fs hu
        split at hks
        · rename_i hst
          have hf : P.fieldsOf t = fs := by simp [Program.fieldsOf, hu]
          rw [run_equalIn_struct w (d + 1) t cs' ds' (by rw [hf]; exact hu) hst, hf]
          exact fields_ok d fs.toList 0 ks cs ds b hks h (by rw [hc.1]; omega) (by rw [hd.1]; omega) (fun j v hj => by rw [Nat.zero_add]; exact hc.2 j v hj) (fun j v hj => by rw [Nat.zero_add]; exact hd.2 j v hj)
        · cases hks
      · rename_i n e hu
        split at hks
        · rename_i it k hi hsc
          split at hks
          · rename_i hsz
            cases hks
            have := run_equalIn_array (P := P) w (d + 1) cs' ds' hu hi
            rw [this, show P.cellsOf e = 1 by simp [Program.cellsOf, hi, hsz], List.range_eq_range']
            exact items_ok d hsc n 0 cs ds b h (by rw [hc.1]; omega) (by rw [hd.1]; omega) (fun j v hj => by rw [Nat.zero_add]; exact hc.2 j v hj) (fun j v hj => by rw [Nat.zero_add]; exact hd.2 j v hj)
          · cases hks
        · cases hks
      · cases hks
    · cases hks
  · cases h

def isPtrT (P : Program) (t : TypeId) : Bool := match P.underlying t with | some (.pointer _) => true | _ => false
def isFunT (P : Program) (t : TypeId) : Bool := match P.underlying t with | some (.func _ _ _) => true | _ => false
def isBoolT (P : Program) (t : TypeId) : Bool := match P.underlying t with | some .bool => true | _ => false

/-- equality -/
def eqA (P : Program) (st : List Ob) (t : TypeId) : V → V → Option Bool
  | .i (.bool a), .i (.bool b) => if isBoolT P t = true then some (a == b) else none
  | .agg cs, .agg ds => aggEqA P t cs ds
  | .i .nilp, .i .nilp => if isPtrT P t = true then some true else none
  | .i .nilp, .ptr id ver e j => if isPtrT P t = true ∧ (V.ptr id ver e j).known st = true then some false else none
  | .ptr id ver e j, .i .nilp => if isPtrT P t = true ∧ (V.ptr id ver e j).known st = true then some false else none
  | .i .nilp, .iptr _ _ => if isPtrT P t = true then some false else none
  | .iptr _ _, .i .nilp => if isPtrT P t = true then some false else none
  | .nilf, .nilf => if isFunT P t = true then some true else none
  | .nilf, .fn _ _ _ => if isFunT P t = true then some false else none
  | .fn _ _ _, .nilf => if isFunT P t = true then some false else none
  | _, _ => none

/-- the kinds that a struct's cells are of -/
def kindsOf : List V → Option (List Nat)
  | [] => some []
  | v :: vs => match v, kindsOf vs with
    | .i (.int _ _), some ks => some (0 :: ks)
    | .i (.bool _), some ks => some (1 :: ks)
    | .i (.str _), some ks => some (2 :: ks)
    | _, _ => none
def binA (P : Program) (st : List Ob) (op : BinOp) (t : TypeId) (x y : V) : Option (Option Prop × V) :=
  match x, y with
  | .i (.int k a), .i (.int k' b) => (match op with
      | .shl | .shr => shiftBin op k a b
      | _ => if k = k' then intBin op k a b else none).map fun (p, v) => (p, .i v)
  | .i (.str a), .i (.str b) => match op with
      | .add => some (some (a.size + b.size ≤ maxLen), .i (.str (a ++ b)))
      | .eql => some (none, .i (.bool (a.data.toList == b.data.toList)))
      | .neq => some (none, .i (.bool (!(a.data.toList == b.data.toList))))
      | _ => none
  | .agg cs, .agg ds => match kindsOf cs with
    | some ks => match cellsEq ks cs ds, op with
      | some b, .eql => some (some (eqKinds P t = some ks), .i (.bool b))
      | some b, .neq => some (some (eqKinds P t = some ks), .i (.bool !b))
      | _, _ => none
    | none => none
  | x, y => match op with
      | .eql => (eqA P st t x y).map fun b => (none, .i (.bool b))
      | .neq => (eqA P st t x y).map fun b => (none, .i (.bool !b))
      | _ => none

theorem isPtrT_ok {t : TypeId} (h : isPtrT P t = true) : ∃ e, P.underlying t = some (.pointer e) := by
  unfold isPtrT at h; split at h
  · exact ⟨_, by assumption⟩
  · cases h
theorem isFunT_ok {t : TypeId} (h : isFunT P t = true) : ∃ a b c, P.underlying t = some (.func a b c) := by
  unfold isFunT at h; split at h
  · exact ⟨_, _, _, by assumption⟩
  · cases h
theorem isBoolT_ok {t : TypeId} (h : isBoolT P t = true) : P.underlying t = some .bool := by
  unfold isBoolT at h; split at h
  · assumption
  · cases h

theorem ptr_nn {t e : TypeId} (hu : P.underlying t = some (.pointer e)) (d : Nat) : (Op.equalIn (d + 1) t (.pointer none) (.pointer none)).run P w = .ok true w := by simp [Op.equalIn, run_underlying hu]
theorem ptr_ns {t e : TypeId} (hu : P.underlying t = some (.pointer e)) (a : Addr) (d : Nat) : (Op.equalIn (d + 1) t (.pointer none) (.pointer (some a))).run P w = .ok false w := by simp [Op.equalIn, run_underlying hu]
theorem ptr_sn {t e : TypeId} (hu : P.underlying t = some (.pointer e)) (a : Addr) (d : Nat) : (Op.equalIn (d + 1) t (.pointer (some a)) (.pointer none)).run P w = .ok false w := by simp [Op.equalIn, run_underlying hu]
theorem fun_nn {t : TypeId} {p r : Array TypeId} {v : Bool} (hu : P.underlying t = some (.func p r v)) (d : Nat) : (Op.equalIn (d + 1) t .nilFunc .nilFunc).run P w = .ok true w := by simp [Op.equalIn, run_underlying hu]
theorem fun_ns {t : TypeId} {p r : Array TypeId} {v : Bool} (hu : P.underlying t = some (.func p r v)) (f : Fn) (a b : Array Value) (d : Nat) : (Op.equalIn (d + 1) t .nilFunc (.func f a b)).run P w = .ok false w := by simp [Op.equalIn, run_underlying hu]
theorem fun_sn {t : TypeId} {p r : Array TypeId} {v : Bool} (hu : P.underlying t = some (.func p r v)) (f : Fn) (a b : Array Value) (d : Nat) : (Op.equalIn (d + 1) t (.func f a b) .nilFunc).run P w = .ok false w := by simp [Op.equalIn, run_underlying hu]

theorem eqA_ok {t : TypeId} {x y : V} {x' y' : Value} {b : Bool} (h : eqA P st t x y = some b) (hx : vrel μ st (qd D μ st w) w x x') (hy : vrel μ st (qd D μ st w) w y y') (op : BinOp) (ox oy : Operand) :
    (Op.equal t x' y').run P w = .ok b w ∧ (eqGuard op t ox oy x' y').run P w = .ok () w ∧ Go.binOp .eql t x' y' = (do pure (.bool (← Op.equal t x' y'))) ∧ Go.binOp .neq t x' y' = (do pure (.bool (!(← Op.equal t x' y')))) := by
  have guardNone : ∀ x' y', (∀ cs, x' ≠ .agg cs) → (x' ≠ .nilIface) → (eqGuard op t ox oy x' y').run P w = .ok () w := by
    intro x' y' h1 h2
    cases op <;> try rfl
    all_goals (cases x' <;> first | rfl | exact absurd rfl h2 | exact absurd rfl (h1 _))
  have ptrv : ∀ id ver e j y, (V.ptr id ver e j).known st = true → ptrOK μ st id ver e j y → ∃ a, y = .pointer (some a) := by
    intro id ver e j y hk hx
    obtain ⟨sz, ro, es, hid⟩ := known_ptr hk
    obtain ⟨_, g, m, _, rfl⟩ := (hx.2 _ _ _ _ hid).2 rfl
    exact ⟨_, rfl⟩
  unfold eqA at h
  split at h
  · cases hx with | i hx => cases hx with | bool => cases hy with | i hy => cases hy with | bool =>
      split at h
      · rename_i ht; cases h
        exact ⟨run_equal_bool w t _ _ (isBoolT_ok ht), guardNone _ _ (by simp) (by simp), rfl, rfl⟩
      · cases h
  · cases hx with | agg cs cs' h1 h2 => cases hy with | agg ds ds' h3 h4 =>
      obtain ⟨e1, e2⟩ := aggEqA_ok (P := P) h (⟨h1, h2⟩ : vrels μ st (qd D μ st w) w _ _) ⟨h3, h4⟩ 9998
      exact ⟨e1, run_eqGuard_agg w op t ox oy _ _ e2, rfl, rfl⟩
  · cases hx with | i hx => cases hx with | nilp => cases hy with | i hy => cases hy with | nilp =>
      split at h
      · rename_i ht; cases h
        obtain ⟨e, hu⟩ := isPtrT_ok ht
        exact ⟨ptr_nn hu 9999, guardNone _ _ (by simp) (by simp), rfl, rfl⟩
      · cases h
  · cases hx with | i hx => cases hx with | nilp => cases hy with | ptr hy =>
      split at h
      · rename_i ht; cases h
        obtain ⟨e, hu⟩ := isPtrT_ok ht.1
        obtain ⟨a, rfl⟩ := ptrv _ _ _ _ _ ht.2 hy
        exact ⟨ptr_ns hu _ 9999, guardNone _ _ (by simp) (by simp), rfl, rfl⟩
      · cases h
  · cases hy with | i hy => cases hy with | nilp => cases hx with | ptr hx =>
      split at h
      · rename_i ht; cases h
        obtain ⟨e, hu⟩ := isPtrT_ok ht.1
        obtain ⟨a, rfl⟩ := ptrv _ _ _ _ _ ht.2 hx
        exact ⟨ptr_sn hu _ 9999, guardNone _ _ (by simp) (by simp), rfl, rfl⟩
      · cases h
  · cases hx with | i hx => cases hx with | nilp => cases hy with | iptr =>
      split at h
      · rename_i ht; cases h
        obtain ⟨e, hu⟩ := isPtrT_ok ht
        exact ⟨ptr_ns hu _ 9999, guardNone _ _ (by simp) (by simp), rfl, rfl⟩
      · cases h
  · cases hy with | i hy => cases hy with | nilp => cases hx with | iptr =>
      split at h
      · rename_i ht; cases h
        obtain ⟨e, hu⟩ := isPtrT_ok ht
        exact ⟨ptr_sn hu _ 9999, guardNone _ _ (by simp) (by simp), rfl, rfl⟩
      · cases h
  · cases hx with | nilf => cases hy with | nilf =>
      split at h
      · rename_i ht; cases h
        obtain ⟨_, _, _, hu⟩ := isFunT_ok ht
        exact ⟨fun_nn hu 9999, guardNone _ _ (by simp) (by simp), rfl, rfl⟩
      · cases h
  · cases hx with | nilf => cases hy with | fn =>
      split at h
      · rename_i ht; cases h
        obtain ⟨_, _, _, hu⟩ := isFunT_ok ht
        exact ⟨fun_ns hu _ _ _ 9999, guardNone _ _ (by simp) (by simp), rfl, rfl⟩
      · cases h
  · cases hy with | nilf => cases hx with | fn =>
      split at h
      · rename_i ht; cases h
        obtain ⟨_, _, _, hu⟩ := isFunT_ok ht
        exact ⟨fun_sn hu _ _ _ 9999, guardNone _ _ (by simp) (by simp), rfl, rfl⟩
      · cases h
  · cases h
end
end Go.Proofs.YtdbmfnhbgacldaaDoor.Am
