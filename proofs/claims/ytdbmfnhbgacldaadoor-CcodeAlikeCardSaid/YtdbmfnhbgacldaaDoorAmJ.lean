/- Operations of the model on abstract states: all of two operands, of one, conversions, lengths. -/
import Derived.Test.YtdbmfnhbgacldaaDoorAmI
import Derived.Laws.BytesString
import Derived.Laws.IdiomStrings
namespace Go.Proofs.YtdbmfnhbgacldaaDoor.Am
set_option autoImplicit false
set_option linter.unusedVariables false
set_option linter.unusedSimpArgs false
section
variable {P : Program} {D : Nat → Prop} {μ : Mu} {st : List Ob} {w : World}

theorem intBin_ok {op : BinOp} {k : IntKind} {a b : Int} {p : Option Prop} {v : I} {t : TypeId} (h : intBin op k a b = some (p, v)) (hp : sd p) : ∃ y, (Go.binOp op t (.int k a) (.int k b)).run P w = .ok y w ∧ ∀ Q, irel Q w v y := by
  cases op <;> simp only [intBin, Option.some.injEq, Prod.mk.injEq, reduceCtorEq] at h <;> obtain ⟨rfl, rfl⟩ := h
  case quo => exact ⟨_, by simp [Go.binOp, Op.intDiv, hp _ rfl], fun Q => .int _ _⟩
  case rem => exact ⟨_, by simp [Go.binOp, Op.intDiv, hp _ rfl], fun Q => .int _ _⟩
  case add => exact ⟨_, by simp [Go.binOp, Op.intArith], fun Q => .int _ _⟩
  case sub => exact ⟨_, by simp [Go.binOp, Op.intArith], fun Q => .int _ _⟩
  case mul => exact ⟨_, by simp [Go.binOp, Op.intArith], fun Q => .int _ _⟩
  case and => exact ⟨_, by simp [Go.binOp, Op.intBits], fun Q => .int _ _⟩
  case or => exact ⟨_, by simp [Go.binOp, Op.intBits], fun Q => .int _ _⟩
  case xor => exact ⟨_, by simp [Go.binOp, Op.intBits], fun Q => .int _ _⟩
  case andNot => exact ⟨_, by simp [Go.binOp, Op.intBits], fun Q => .int _ _⟩
  case eql => exact ⟨_, by simp [Go.binOp, Op.intCmp], fun Q => .bool _⟩
  case neq => exact ⟨_, by simp [Go.binOp, Op.intCmp], fun Q => .bool _⟩
  case lss => exact ⟨_, by simp [Go.binOp, Op.intCmp], fun Q => .bool _⟩
  case leq => exact ⟨_, by simp [Go.binOp, Op.intCmp], fun Q => .bool _⟩
  case gtr => exact ⟨_, by simp [Go.binOp, Op.intCmp], fun Q => .bool _⟩
  case geq => exact ⟨_, by simp [Go.binOp, Op.intCmp], fun Q => .bool _⟩

theorem shiftBin_ok {op : BinOp} {k k' : IntKind} {a b : Int} {p : Option Prop} {v : I} {t : TypeId} (h : shiftBin op k a b = some (p, v)) (hp : sd p) : ∃ y, (Go.binOp op t (.int k a) (.int k' b)).run P w = .ok y w ∧ ∀ Q, irel Q w v y := by
  cases op <;> simp only [shiftBin, Option.some.injEq, Prod.mk.injEq, reduceCtorEq] at h <;> obtain ⟨rfl, rfl⟩ := h
  case shl => exact ⟨_, by simp [Go.binOp, Op.shift, show ¬ b < 0 by have := hp _ rfl; omega], fun Q => .int _ _⟩
  case shr => exact ⟨_, by simp [Go.binOp, Op.shift, show ¬ b < 0 by have := hp _ rfl; omega], fun Q => .int _ _⟩

theorem binA_ok (hs : srel D μ st w) {op : BinOp} {t : TypeId} {x y v : V} {p : Option Prop} {x' y' : Value} {ox oy : Operand} (h : binA P st op t x y = some (p, v)) (hp : sd p) (hx : vrel μ st (qd D μ st w) w x x') (hy : vrel μ st (qd D μ st w) w y y') :
    Does P D μ st w (do eqGuard op t ox oy x' y'; Go.binOp op t x' y') v st := by
  unfold binA at h
  split at h
  · rename_i k a k' b
    cases hx with | i hx => cases hx with | int => cases hy with | i hy => cases hy with | int =>
    simp only [Option.map_eq_some_iff] at h
    obtain ⟨⟨p', v'⟩, h1, h2⟩ := h
    simp only [Prod.mk.injEq] at h2
    obtain ⟨rfl, rfl⟩ := h2
    have hg : (eqGuard op t ox oy (.int k a) (.int k' b)).run P w = .ok () w := by cases op <;> rfl
    have key : ∃ y, (Go.binOp op t (.int k a) (.int k' b)).run P w = .ok y w ∧ ∀ Q, irel Q w v' y := by
      split at h1
      · exact shiftBin_ok h1 hp
      · exact shiftBin_ok h1 hp
      · split at h1
        · rename_i hk; subst hk; exact intBin_ok h1 hp
        · cases h1
    obtain ⟨y, hr, hv⟩ := key
    exact Does.same hs (y := y) (by simp [hg, hr]) (.i (hv _))
  · rename_i a b
    cases hx with | i hx => cases hx with | str => cases hy with | i hy => cases hy with | str =>
    have hg : (eqGuard op t ox oy (.string a) (.string b)).run P w = .ok () w := by cases op <;> rfl
    split at h
    · cases h
      exact Does.same hs (y := .string (a ++ b)) (by
        have : ¬ (9223372036854775807 < (a.size : Int) + (b.size : Int)) := by have hp := hp _ rfl; unfold maxLen at hp; omega
        simp [hg, Go.binOp, Op.stringOp, IntKind.max, IntKind.signed, IntKind.bits, this]) (.i (.str _))
    · cases h
      exact Does.same hs (y := .bool (a.data.toList == b.data.toList)) (by simp [hg, Go.binOp, Op.stringOp, ByteArray.toList_eq]) (.i (.bool _))
    · cases h
      exact Does.same hs (y := .bool (!(a.data.toList == b.data.toList))) (by simp [hg, Go.binOp, Op.stringOp, ByteArray.toList_eq]) (.i (.bool _))
    · cases h
  · rename_i cs ds
    have go : ∀ b, eqA P st t (.agg cs) (.agg ds) = some b → (op = .eql → Does P D μ st w (do eqGuard op t ox oy x' y'; Go.binOp op t x' y') (.i (.bool b)) st) ∧ (op = .neq → Does P D μ st w (do eqGuard op t ox oy x' y'; Go.binOp op t x' y') (.i (.bool (!b))) st) := by
      intro b hb
      obtain ⟨e1, e2, e3, e4⟩ := eqA_ok (P := P) hb hx hy op ox oy
      constructor
      · rintro rfl
        exact Does.same hs (y := .bool b) (by simp [e2, e3, e1]) (.i (.bool _))
      · rintro rfl
        exact Does.same hs (y := .bool (!b)) (by simp [e2, e4, e1]) (.i (.bool _))
    split at h
    · rename_i ks hk
      split at h
      · rename_i b hb
        cases h
        have hp := hp _ rfl
        exact (go b (by simp only [eqA, aggEqA, hp]; assumption)).1 rfl
      · rename_i b hb
        cases h
        have hp := hp _ rfl
        exact (go b (by simp only [eqA, aggEqA, hp]; assumption)).2 rfl
      · cases h
    · cases h
  · rename_i n1 n2 n3
    have go : ∀ b, eqA P st t x y = some b → (op = .eql → Does P D μ st w (do eqGuard op t ox oy x' y'; Go.binOp op t x' y') (.i (.bool b)) st) ∧ (op = .neq → Does P D μ st w (do eqGuard op t ox oy x' y'; Go.binOp op t x' y') (.i (.bool (!b))) st) := by
      intro b hb
      obtain ⟨e1, e2, e3, e4⟩ := eqA_ok (P := P) hb hx hy op ox oy
      constructor
      · rintro rfl
        exact Does.same hs (y := .bool b) (by simp [e2, e3, e1]) (.i (.bool _))
      · rintro rfl
        exact Does.same hs (y := .bool (!b)) (by simp [e2, e4, e1]) (.i (.bool _))
    split at h
    · simp only [Option.map_eq_some_iff] at h
      obtain ⟨b, hb, h2⟩ := h
      cases h2
      exact (go b hb).1 rfl
    · simp only [Option.map_eq_some_iff] at h
      obtain ⟨b, hb, h2⟩ := h
      cases h2
      exact (go b hb).2 rfl
    · cases h

def unA (op : UnOp) : V → Option V
  | .i (.int k n) => match op with
    | .neg => some (.i (.int k (k.wrap (0 - n))))
    | .xor => some (.i (.int k (k.wrap ((BitVec.ofInt k.bits (if k.signed then -1 else k.max) ^^^ BitVec.ofInt k.bits n).toNat : Int))))
    | _ => none
  | .i (.bool b) => match op with | .not => some (.i (.bool (!b))) | _ => none
  | _ => none
theorem unA_ok (hs : srel D μ st w) {op : UnOp} {x v : V} {x' : Value} (h : unA op x = some v) (hx : vrel μ st (qd D μ st w) w x x') : Does P D μ st w (Op.unary op x') v st := by
  unfold unA at h
  split at h
  · rename_i k n
    cases hx with | i hx => cases hx with | int =>
    split at h
    · cases h; exact Does.same hs (y := .int k (k.wrap (0 - n))) (by simp [Op.unary, Op.intArith]) (.i (.int _ _))
    · cases h; exact Does.same hs (y := .int k _) (by simp only [Op.unary, Op.intBits]; rfl) (.i (.int _ _))
    · cases h
  · rename_i b
    cases hx with | i hx => cases hx with | bool =>
    split at h
    · cases h; exact Does.same hs (y := .bool (!b)) (by simp [Op.unary]) (.i (.bool _))
    · cases h
  · cases h

/-- the bytes of elements that are bytes -/
def byteOf : List V → UInt8
  | [.i (.int .u8 n)] => UInt8.ofNat n.toNat
  | _ => 0
def isByte : List V → Prop
  | [.i (.int .u8 _)] => True
  | _ => False
theorem isByte_ok {cs : List V} (h : isByte cs) : ∃ n, cs = [.i (.int .u8 n)] := by
  unfold isByte at h; split at h
  · exact ⟨_, rfl⟩
  · cases h

def intT (P : Program) (t : TypeId) : Option IntKind := match P.underlying t with | some (.int k) => some k | _ => none
def convA (P : Program) (own : Bool) (st : List Ob) (src dst : TypeId) (x : V) : Option (Option Prop × V × List Ob) :=
  match P.underlying src with
  | none => none
  | some _ => match P.underlying dst with
    | some (.int k) => match x with
      | .i (.int _ n) => some (none, .i (.int k (k.wrap n)), st)
      | _ => none
    | some .string => match x with
      | .i (.str s) => some (none, .i (.str s), st)
      | x => match elemA P src with
        | some e => if intT P e = some .u8 then (srcA st 1 x).map fun (p, es) => (some (p ∧ ∀ cs ∈ es, isByte cs), .i (.str ⟨(es.map byteOf).toArray⟩), st) else none
        | none => none
    | some (.slice e) => match x with
      | .i (.str s) => if intT P e = some .u8 ∧ isStr P src = true then some (some (s.size ≤ maxLen), .ref st.length 1 0 s.size, st ++ [.row 1 1 false (lift (bytesI s.data.toList))]) else none
      | .ref id ver 0 len => match st[id]? with
        | some (.row ver' 1 false es) => if src = dst ∧ intT P e = some .u8 ∧ ver = ver' then match own with
            | true => some (some (len = es.length ∧ 0 < len), .ref id ver 0 len, st.set id (.row ver 1 false es))
            | false => (toIss es).map fun is => (some (len = es.length ∧ 0 < len), .i (.sl is), st.set id .dead)
          else none
        | _ => none
      | _ => none
    | _ => none

theorem intT_ok {t : TypeId} {k : IntKind} (h : intT P t = some k) : P.underlying t = some (.int k) := by
  unfold intT at h; split at h
  · cases h; assumption
  · cases h

theorem foldl_push_bytes' : ∀ (ns : List Int) (s : ByteArray), ns.foldl (fun r n => r.push (UInt8.ofNat n.toNat)) s = ⟨s.data ++ (ns.map fun n => UInt8.ofNat n.toNat).toArray⟩
  | [], s => by simp
  | n :: ns, s => by
    rw [List.foldl_cons, foldl_push_bytes' ns]
    simp [ByteArray.push]

theorem bytes_str (hs : srel D μ st w) {src dst e : TypeId} (hu : P.underlying src = some (.slice e)) (he : P.underlying e = some (.int .u8)) (hd : P.underlying dst = some .string) {x : V} {x' : Value} {p : Prop} {es : List (List V)}
    (h : srcA st 1 x = some (p, es)) (hp : p) (hb : ∀ cs ∈ es, isByte cs) (hx : vrel μ st (qd D μ st w) w x x') (hns : ∀ s, x ≠ .i (.str s)) : (Go.convert src dst x').run P w = .ok (.string ⟨(es.map byteOf).toArray⟩) w := by
  obtain ⟨news, hsrc⟩ := srcA_ok (P := P) hs h hp hx
  -- the concrete value is a slice
  have hsl : ∃ a n c, x' = .slice a n c := by
    cases hx with
    | i hx => cases hx with
      | str s => exact absurd rfl (hns s)
      | sl0 a c => exact ⟨_, _, _, rfl⟩
      | sl => exact ⟨_, _, _, rfl⟩
      | _ => simp [srcA] at h
    | nils => exact ⟨_, _, _, rfl⟩
    | @ref id ver off len _ hr =>
      simp only [srcA] at h
      split at h
      · rename_i ver' sz ro es0 hid
        split at h
        · rename_i hc
          obtain ⟨rfl, rfl⟩ := hc
          obtain ⟨_, h5⟩ := (hr.2 _ _ _ _ hid).2 rfl
          rcases h5 with ⟨_, _, rfl⟩ | ⟨_, _, _, _, rfl, _⟩ | ⟨_, _, _, _, rfl⟩ <;> exact ⟨_, _, _, rfl⟩
        · cases h
      · cases h
    | _ => simp [srcA] at h
  obtain ⟨a, n, c, rfl⟩ := hsl
  have hn : n = es.length := by have := hsrc.len w; simpa [Builtin.lenOf] using this
  subst hn
  rw [run_convert_bytes_string w src dst e a _ c hu he hd]
  cases a with
  | none =>
    have hr := hsrc.read w rfl
    simp only [Builtin.firstCells, Sem.run_pure, Result.ok.injEq, and_true] at hr
    have h0 : es.length = 0 := by have := hsrc.size; rw [show news = [] by simpa using hr.symm] at this; simpa using this.symm
    have hnil : es = [] := List.eq_nil_of_length_eq_zero h0
    subst hnil
    simp [Conv.bytesToString]
    rfl
  | some a =>
    have hr := hsrc.read w rfl
    simp only [Builtin.firstCells, Nat.mul_one] at hr
    -- the numbers
    have hnum : news = (es.map fun cs => (match cs with | [.i (.int .u8 n)] => n | _ => 0 : Int)).map (Value.int .u8) := by
      apply List.ext_getElem?
      intro k
      by_cases hk : k < es.length
      · have hg := List.getElem?_eq_getElem hk
        obtain ⟨m, hm⟩ := isByte_ok (hb _ (List.mem_of_getElem? hg))
        rw [hm] at hg
        have hv := hsrc.rel k _ 0 _ hg rfl
        simp only [Nat.mul_one, Nat.add_zero] at hv
        have hkl : k < news.length := by rw [hsrc.size]; omega
        rw [List.getElem?_map, List.getElem?_map, hg, getD_get? (d := Go.undef) hkl]
        cases hv with | i hv =>
        generalize news.getD k Go.undef = u at hv
        cases hv with | int => rfl
      · rw [List.getElem?_eq_none (by rw [hsrc.size]; omega), List.getElem?_eq_none (by simp; omega)]
    rw [hnum] at hr
    rw [run_bytesToString w a _ c _ hr, foldl_push_bytes']
    congr 2
    have : (es.map fun cs => (match cs with | [.i (.int .u8 n)] => n | _ => 0 : Int)).map (fun n => UInt8.ofNat n.toNat) = es.map byteOf := by
      rw [List.map_map]
      apply List.map_congr_left
      intro cs hcs
      obtain ⟨m, rfl⟩ := isByte_ok (hb cs hcs)
      rfl
    rw [this]
    show ByteArray.mk (#[] ++ _) = _
    simp

/-- a row is given up: what nobody changes any more may lie there -/
theorem dead_row {w' : World} {id ver sz g m : Nat} {es : List (List V)} (hs : srel D μ st w) (hid : st[id]? = some (.row ver sz false es)) (hμ : μ id = some (g, m)) (ho : Only g w w') :
    srel D μ (st.set id .dead) w' ∧ Fr μ st w μ (st.set id .dead) w' ∧ Ev st.length μ st μ (st.set id .dead) ∧ (∀ k, qd D μ st w k → qd D μ (st.set id .dead) w' k ∧ w'.heap[k]? = w.heap[k]?) ∧ ¬ live μ (st.set id .dead) g := by
  have hlt := lt_of_get? hid
  have hlive : live μ st g := ⟨id, ver, sz, es, m, hid, hμ⟩
  have hget : ∀ (i v s : Nat) (r : Bool) (e : List (List V)), (st.set id .dead)[i]? = some (.row v s r e) → i ≠ id ∧ st[i]? = some (.row v s r e) := by
    intro i v s r e h
    by_cases hi : id = i
    · subst hi; rw [getElem?_set_eq' hlt] at h; cases h
    · rw [getElem?_set_ne' hi] at h; exact ⟨Ne.symm hi, h⟩
  have hlv : ∀ k, live μ (st.set id .dead) k → live μ st k ∧ k ≠ g := by
    rintro k ⟨i, v, s, e, m', h1, h2⟩
    obtain ⟨hi, h3⟩ := hget _ _ _ _ _ h1
    refine ⟨⟨i, v, s, e, m', h3, h2⟩, fun hk => ?_⟩
    subst hk
    exact hi (hs.inj i id v s e ver sz es k m' m h3 hid h2 hμ)
  have hng : ¬ live μ (st.set id .dead) g := fun h => (hlv g h).2 rfl
  have hev : Ev st.length μ st μ (st.set id .dead) := ⟨by simp, fun i hi v s r e h => by
    obtain ⟨_, h3⟩ := hget _ _ _ _ _ h
    exact ⟨v, r, e, h3, Nat.le_refl _, fun h => h, fun _ => ⟨rfl, rfl⟩⟩⟩
  have hq : ∀ k, qd D μ st w k → qd D μ (st.set id .dead) w' k ∧ w'.heap[k]? = w.heap[k]? := by
    intro k hk
    have hkg : k ≠ g := fun e => hk.1.2 (e ▸ hlive)
    exact ⟨⟨⟨by rw [ho.size]; exact hk.1.1, fun h => hk.1.2 (hlv k h).1⟩, hk.2⟩, ho.block k hkg⟩
  refine ⟨⟨fun k hk => hs.dom k (by rw [← ho.size]; exact hk), fun i v s r e h => ?_, fun i j v1 s1 e1 v2 s2 e2 k m1 m2 h1 h2 h3 h4 => hs.inj i j _ _ _ _ _ _ k m1 m2 (hget _ _ _ _ _ h1).2 (hget _ _ _ _ _ h2).2 h3 h4⟩, ⟨ho.os, ho.tape, ho.output, by rw [ho.size]; exact Nat.le_refl _, fun k hk => ⟨ho.block k fun e => hk.2 (e ▸ hlive), fun h => hk.2 (hlv k h).1⟩⟩, hev, hq, hng⟩
  obtain ⟨hi, h3⟩ := hget _ _ _ _ _ h
  rcases hs.row i v s r e h3 with ⟨b1, b2⟩ | ⟨g', m', cur, T, lo, hi', b1, b2, b3, b4, b5, b6, b7, b8, b9⟩
  · exact .inl ⟨b1, b2⟩
  · have hne : g' ≠ g := by
      intro e'
      subst e'
      cases r with
      | true => exact (b7 rfl).1.2 hlive
      | false => exact hi (hs.inj i id v s e ver sz es g' m' m h3 hid b1 hμ)
    exact .inr ⟨g', m', cur, T, lo, hi', b1, by rw [ho.block g' hne]; exact b2, b3, b4, b5, fun i cs j u x y => (b6 i cs j u x y).keep hev hq, fun hr => (hq g' (b7 hr)).1, b8, b9⟩

theorem run_mark (w : World) (t e : TypeId) {g m n c : Nat} {cur : Array Value} {T : TypeId} {fr : Nat × Nat} (hc : w.heap[g]? = some (.cells cur T fr)) (ht : P.underlying t = some (.slice e)) (he : P.underlying e = some (.int .u8)) :
    (Go.convert t t (.slice (some ⟨g, m, none⟩) n c)).run P w = .ok (.slice (some ⟨g, m, none⟩) n c) (w.freeze ⟨g, cur.size, none⟩ 1) := by
  have hsh : w.shape? g = some (T, cur.size) := by unfold World.shape?; rw [hc]
  simp [Go.convert, run_underlying ht, run_underlying he, markStringish, hsh]
theorem freeze_only (w : World) {g k : Nat} {cur : Array Value} {T : TypeId} {fr : Nat × Nat} (hc : w.heap[g]? = some (.cells cur T fr)) : Only g w (w.freeze ⟨g, k, none⟩ 1) ∧ ∃ lo' hi', (w.freeze ⟨g, k, none⟩ 1).heap[g]? = some (.cells cur T (lo', hi')) ∧ (unfz fr.1 fr.2 k → unfz lo' hi' k) := by
  obtain ⟨lo, hi⟩ := fr
  unfold World.freeze
  rw [if_neg (by decide)]
  refine ⟨⟨rfl, rfl, rfl, by simp, fun i hi => by simp [Array.getElem?_modify, Ne.symm hi]⟩, ?_⟩
  by_cases h : lo = hi
  · subst h
    exact ⟨k, k + 1, by simp [Array.getElem?_modify, hc], fun _ => .inr (Nat.le_refl _)⟩
  · refine ⟨min lo k, max hi (k + 1), by simp [Array.getElem?_modify, hc, h], fun h1 => .inr ?_⟩
    rcases h1 with h1 | h1
    · exact absurd h1 h
    · exact Nat.le_min.2 ⟨h1, Nat.le_refl _⟩

theorem convA_ok (hs : srel D μ st w) {own : Bool} {src dst : TypeId} {x v : V} {p : Option Prop} {st' : List Ob} {x' : Value} (h : convA P own st src dst x = some (p, v, st')) (hp : sd p) (hx : vrel μ st (qd D μ st w) w x x') : Does P D μ st w (Go.convert src dst x') v st' := by
  unfold convA at h
  split at h
  · cases h
  · rename_i sd hsu
    split at h
    · rename_i k hd
      split at h
      · rename_i k' n
        cases h
        cases hx with | i hx => cases hx with | int =>
        refine Does.same hs (y := .int k (k.wrap n)) ?_ (.i (.int _ _))
        cases sd <;> simp [Go.convert, run_underlying hsu, run_underlying hd, Conv.intToInt]
      · cases h
    · rename_i hd
      split at h
      · rename_i s
        cases h
        cases hx with | i hx => cases hx with | str =>
        refine Does.same hs (y := .string s) ?_ (.i (.str _))
        cases sd <;> simp [Go.convert, run_underlying hsu, run_underlying hd]
      · rename_i hns
        split at h
        · rename_i e he
          split at h
          · rename_i hb
            simp only [Option.map_eq_some_iff] at h
            obtain ⟨⟨p', es⟩, h1, h2⟩ := h
            cases h2
            exact Does.same hs (bytes_str (P := P) hs (elemA_ok he) (intT_ok hb) hd h1 (hp _ rfl).1 (hp _ rfl).2 hx (fun s e => hns s e)) (.i (.str _))
          · cases h
        · cases h
    · rename_i e hd
      split at h
      · rename_i s
        split at h
        · rename_i hb
          cases h
          cases hx with | i hx => cases hx with | str =>
          have he := intT_ok hb.1
          have hrun := run_bytes_of_string w src dst e s (isStr_ok hb.2) hd he
          have hcap : s.size ≤ grownCap w s.size 0 e ∧ grownCap w s.size 0 e ≤ maxLen := ⟨grownCap_ge w _ _ e, grownCap_le_maxLen w _ _ e (hp _ rfl)⟩
          generalize hC : grownCap w s.size 0 e = C at hrun hcap
          have hsz : (bytesRow s C).size = C := by
            simp only [bytesRow, Array.size_append, Array.size_map, Array.size_replicate]
            have : s.data.size = s.size := rfl
            omega
          have hlen : (lift (bytesI s.data.toList)).length = s.size := by simp [lift, bytesI]
          have hget : ∀ (i : Nat) (cs : List V), (lift (bytesI s.data.toList))[i]? = some cs → ∃ b, s.data.toList[i]? = some b ∧ cs = [.i (.int .u8 b.toNat)] := by
            intro i cs hi
            simp only [lift, bytesI, List.getElem?_map, Option.map_eq_some_iff] at hi
            obtain ⟨cs0, ⟨b, h1, h2⟩, h3⟩ := hi
            subst h2; subst h3
            exact ⟨b, h1, rfl⟩
          obtain ⟨r1, r2, r3, _⟩ := new_row 1 hs ((Grow.drew w).trans (Grow.alloc w.drew (.cells (bytesRow s C) e ((bytesRow s C).size, (bytesRow s C).size + 1)))) (x := some (w.heap.size, C)) (sz' := 1) (es' := lift (bytesI s.data.toList))
            (.inr ⟨w.heap.size, C, bytesRow s C, e, _, _, rfl, Nat.le_refl _, heap_alloc_new w.drew _, hsz, by rw [hlen]; omega, fun i cs hi => by obtain ⟨b, _, rfl⟩ := hget i cs hi; rfl, .inr (by rw [hsz]; exact Nat.le_refl _), fun i cs j v hi hj => by
              obtain ⟨b, h1, rfl⟩ := hget i cs hi
              have : j = 0 := by have := lt_of_get? hj; simp at this; exact this
              subst this
              simp only [List.getElem?_cons_zero, Option.some.injEq] at hj
              subst hj
              have hil : i < s.data.size := by have := lt_of_get? h1; simpa using this
              have hb : s.data[i]? = some b := by simpa using h1
              have : (bytesRow s C).getD (i * 1 + 0) Go.undef = .int .u8 b.toNat := by
                rw [Nat.mul_one, Nat.add_zero, Array.getD_eq_getD_getElem?, bytesRow, Array.getElem?_append_left (by simpa using hil), Array.getElem?_map, hb]
                rfl
              rw [this]
              exact .i (.int _ _)⟩)
          refine ⟨_, _, _, hrun, .ref ⟨by simp, fun v' s' r' e' h' => ?_⟩, r1, r2, r3⟩
          rw [new_get] at h'; cases h'
          exact ⟨Nat.le_refl _, fun _ => ⟨by rw [hlen]; omega, .inr (.inl ⟨w.heap.size, C, C, upd_same _ _ _, by simp, hcap.1, hcap.2, by omega⟩)⟩⟩
        · cases h
      · rename_i id ver len
        split at h
        · rename_i ver' es hid
          split at h
          · rename_i hc
            obtain ⟨rfl, hu8, rfl⟩ := hc
            obtain ⟨rfl, hpos⟩ : len = es.length ∧ 0 < len := by
              cases own with
              | true => simp only [Option.some.injEq, Prod.mk.injEq] at h; exact hp _ h.1.symm
              | false =>
                simp only [Option.map_eq_some_iff] at h
                obtain ⟨is, his, h2⟩ := h
                cases h2
                exact hp _ rfl
            cases hx with | ref hx =>
            have hx0 := hx
            obtain ⟨_, h5⟩ := (hx.2 _ _ _ _ hid).2 rfl
            rcases h5 with ⟨a1, _, _⟩ | ⟨g, m, c, a1, rfl, a3, a4, a5⟩ | ⟨_, a2, _⟩
            · omega
            · rcases hs.row id ver 1 false _ hid with ⟨hnil, _⟩ | ⟨g', m', cur, T, lo, hi, b1, b2, b3, b4, b5, b6, b7, b8, b9⟩
              · rw [hnil] at hpos; simp at hpos
              · rw [a1] at b1
                obtain ⟨rfl, rfl⟩ := Prod.mk.inj (Option.some.inj b1)
                obtain ⟨f1, lo', hi', f2, f3⟩ := freeze_only w (k := cur.size) b2
                cases own with
                | true =>
                simp only [Option.some.injEq, Prod.mk.injEq] at h
                obtain ⟨rfl, rfl, rfl⟩ := h
                obtain ⟨q1, q2, q3, q4⟩ := write_row hs hid a1 f1 (ver' := ver) (es' := es) (Nat.le_refl _) (fun _ => rfl) f2 b3 b4 b5 (by rw [← b3]; exact f3 (by rw [b3]; exact b9)) (fun i cs j v x y hk => hk _ _ (b6 i cs j v x y))
                exact ⟨_, μ, _, run_mark w src e b2 hd (intT_ok hu8), q4 _ _ (.ref hx0), q1, q2, q3⟩
                | false =>
                simp only [Option.map_eq_some_iff] at h
                obtain ⟨is, his, h2⟩ := h
                cases h2
                obtain ⟨r1, r2, r3, r4, r5⟩ := dead_row hs hid a1 f1
                have hlen := (toIss_get his).1
                refine ⟨_, μ, _, run_mark w src e b2 hd (intT_ok hu8), .i ?_, r1, r2, r3⟩
                have hq : qd D μ (st.set id .dead) (w.freeze ⟨g, cur.size, none⟩ 1) g := ⟨⟨row_lt f2, r5⟩, b8⟩
                have hel : ∀ (i : Nat) (cs : List I), is[i]? = some cs → ∃ ds, es[i]? = some ds ∧ toIs ds = some cs := fun i cs hi => (toIss_get his).2 i cs hi
                have := irel.sl (Q := qd D μ (st.set id .dead) (w.freeze ⟨g, cur.size, none⟩ 1)) (w := w.freeze ⟨g, cur.size, none⟩ 1) is 1 g (0 * 1) c (fun i j => cur.getD (i * 1 + j) Go.undef) hq (by omega)
                  (fun i cs hi => by
                    obtain ⟨ds, h1, h2⟩ := hel i cs hi
                    rw [← (toIs_get h2).1]; exact b5 i ds h1)
                  (fun i cs j v hi hj => by
                    obtain ⟨ds, h1, h2⟩ := hel i cs hi
                    have e1 := b5 i ds h1
                    have e2 := (toIs_get h2).1
                    have e3 := lt_of_get? hj
                    have e4 := lt_of_get? h1
                    rw [cell_of_row _ g _ cur T _ f2]
                    rw [show 0 * 1 + (i * 1 + j) = i * 1 + j by omega, getD_of_lt (by omega)])
                  (fun i cs j v hi hj => by
                    obtain ⟨ds, h1, h2⟩ := hel i cs hi
                    obtain ⟨u, h3, h4⟩ := (toIs_get h2).2 j v hj
                    have h6 := b6 i ds j u h1 h3
                    exact (toI_ok h4 h6).keep r4)
                rw [← hlen] at this
                exact this
            · omega
          · cases h
        · cases h
      · cases h
    · cases h

end
end Go.Proofs.YtdbmfnhbgacldaaDoor.Am
