/- The abstract states of this session's logic: data without memory (I), values (V), a store of rows (Ob), and what it means that a world of the model holds such a state. Definitions and their first laws. -/
import Derived.Calls
import Derived.Orders
import Derived.Laws.AppendOwn
import Derived.Below
namespace Go.Proofs.YtdbmfnhbgacldaaDoor.Am
set_option autoImplicit false

/-- data that nobody changes -/
inductive I where
  | int (k : IntKind) (n : Int)
  | bool (b : Bool)
  | str (s : ByteArray)
  | sl (es : List (List I))
  | nilp
  | mp (r : Nat)
  | bp (r : Nat)

/-- values: data, windows of rows of the store, places in them, places in data -/
inductive V where
  | i (x : I)
  | ref (id ver off len : Nat)
  | ptr (id ver e j : Nat)
  | iptr (cs : List I) (j : Nat)
  | fn (f : Fn) (first captured : List V)
  | nilf
  | agg (cs : List V)
  | tup (vs : List V)
  | nils
  | undef

/-- a row of the store: elements of so many cells; 'ro': nobody may change it any more -/
inductive Ob where
  | dead
  | row (ver sz : Nat) (ro : Bool) (es : List (List V))

abbrev Mu := Nat → Option (Nat × Nat)   -- of each row its block and how many cells that has

def live (μ : Mu) (st : List Ob) (g : Nat) : Prop := ∃ id ver sz es m, st[id]? = some (.row ver sz false es) ∧ μ id = some (g, m)
def prot (μ : Mu) (st : List Ob) (w : World) (g : Nat) : Prop := g < w.heap.size ∧ ¬ live μ st g
/-- of a part D of memory what nobody changes: what data may lie in -/
def qd (D : Nat → Prop) (μ : Mu) (st : List Ob) (w : World) (g : Nat) : Prop := prot μ st w g ∧ D g

inductive irel (Q : Nat → Prop) (w : World) : I → Value → Prop
  | int (k : IntKind) (n : Int) : irel Q w (.int k n) (.int k n)
  | bool (b : Bool) : irel Q w (.bool b) (.bool b)
  | str (s : ByteArray) : irel Q w (.str s) (.string s)
  | nilp : irel Q w .nilp (.pointer none)
  | mp (r : Nat) : irel Q w (.mp r) (.map (some r))
  | bp (r : Nat) : irel Q w (.bp r) (.pointer (some ⟨r, 0, none⟩))
  | sl0 (a : Option Addr) (c : Nat) : irel Q w (.sl []) (.slice a 0 c)
  | sl (es : List (List I)) (sz g off c : Nat) (xs : Nat → Nat → Value) (hQ : Q g) (hc : es.length ≤ c)
      (hs : ∀ (i : Nat) (cs : List I), es[i]? = some cs → cs.length = sz)
      (hw : ∀ (i : Nat) (cs : List I) (j : Nat) (v : I), es[i]? = some cs → cs[j]? = some v → w.cell? ⟨g, off + (i * sz + j), none⟩ = some (xs i j))
      (hr : ∀ (i : Nat) (cs : List I) (j : Nat) (v : I), es[i]? = some cs → cs[j]? = some v → irel Q w v (xs i j)) :
      irel Q w (.sl es) (.slice (some ⟨g, off, none⟩) es.length c)

def refOK (μ : Mu) (st : List Ob) (id ver off len : Nat) (y : Value) : Prop :=
  id < st.length ∧ ∀ ver' sz ro es, st[id]? = some (.row ver' sz ro es) → ver ≤ ver' ∧ (ver = ver' → off + len ≤ es.length ∧
    ((es.length = 0 ∧ μ id = none ∧ y = .slice none 0 0) ∨ (∃ g m c, μ id = some (g, m) ∧ y = .slice (some ⟨g, off * sz, none⟩) len c ∧ len ≤ c ∧ c ≤ maxLen ∧ (off + c) * sz ≤ m) ∨ (len = 0 ∧ 0 < off ∧ ∃ a c, y = .slice a 0 c)))

def ptrOK (μ : Mu) (st : List Ob) (id ver e j : Nat) (y : Value) : Prop :=
  id < st.length ∧ ∀ ver' sz ro es, st[id]? = some (.row ver' sz ro es) → ver ≤ ver' ∧ (ver = ver' → e < es.length ∧ ∃ g m, μ id = some (g, m) ∧ y = .pointer (some ⟨g, e * sz + j, none⟩))

inductive vrel (μ : Mu) (st : List Ob) (Q : Nat → Prop) (w : World) : V → Value → Prop
  | i {x : I} {y : Value} (h : irel Q w x y) : vrel μ st Q w (.i x) y
  | undef (y : Value) : vrel μ st Q w .undef y
  | nils : vrel μ st Q w .nils (.slice none 0 0)
  | nilf : vrel μ st Q w .nilf .nilFunc
  | ref {id ver off len : Nat} {y : Value} (h : refOK μ st id ver off len y) : vrel μ st Q w (.ref id ver off len) y
  | ptr {id ver e j : Nat} {y : Value} (h : ptrOK μ st id ver e j y) : vrel μ st Q w (.ptr id ver e j) y
  | iptr (cs : List I) (j g off : Nat) (xs : Nat → Value) (hQ : Q g) (hw : ∀ (j : Nat) (v : I), cs[j]? = some v → w.cell? ⟨g, off + j, none⟩ = some (xs j))
      (hr : ∀ (j : Nat) (v : I), cs[j]? = some v → irel Q w v (xs j)) : vrel μ st Q w (.iptr cs j) (.pointer (some ⟨g, off + j, none⟩))
  | fn (f : Fn) (fs cs : List V) (fs' cs' : Array Value) (h1 : fs'.size = fs.length) (h2 : cs'.size = cs.length)
      (h3 : ∀ (j : Nat) (v : V), fs[j]? = some v → vrel μ st Q w v (fs'.getD j Go.undef)) (h4 : ∀ (j : Nat) (v : V), cs[j]? = some v → vrel μ st Q w v (cs'.getD j Go.undef)) :
      vrel μ st Q w (.fn f fs cs) (.func f fs' cs')
  | agg (cs : List V) (cs' : Array Value) (h1 : cs'.size = cs.length) (h2 : ∀ (j : Nat) (v : V), cs[j]? = some v → vrel μ st Q w v (cs'.getD j Go.undef)) : vrel μ st Q w (.agg cs) (.agg cs')
  | tup (cs : List V) (cs' : Array Value) (h1 : cs'.size = cs.length) (h2 : ∀ (j : Nat) (v : V), cs[j]? = some v → vrel μ st Q w v (cs'.getD j Go.undef)) : vrel μ st Q w (.tup cs) (.tuple cs')

/-- related lists of values -/
def vrels (μ : Mu) (st : List Ob) (Q : Nat → Prop) (w : World) (cs : List V) (cs' : Array Value) : Prop :=
  cs'.size = cs.length ∧ ∀ (j : Nat) (v : V), cs[j]? = some v → vrel μ st Q w v (cs'.getD j Go.undef)

/-- of a block's cells none is frozen: what is lies behind them -/
def unfz (lo hi m : Nat) : Prop := lo = hi ∨ m ≤ lo
theorem unfz_ok {lo hi m : Nat} (h : unfz lo hi m) : ∀ o, o < m → ¬ (lo ≤ o ∧ o < hi) := by
  intro o ho
  rcases h with h | h <;> omega
def rowOK (D : Nat → Prop) (μ : Mu) (st : List Ob) (w : World) (id sz : Nat) (ro : Bool) (es : List (List V)) : Prop :=
  (es = [] ∧ μ id = none) ∨ ∃ g m cur T lo hi, μ id = some (g, m) ∧ w.heap[g]? = some (.cells cur T (lo, hi)) ∧ cur.size = m ∧ es.length * sz ≤ m ∧
    (∀ (i : Nat) (cs : List V), es[i]? = some cs → cs.length = sz) ∧
    (∀ (i : Nat) (cs : List V) (j : Nat) (v : V), es[i]? = some cs → cs[j]? = some v → vrel μ st (qd D μ st w) w v (cur.getD (i * sz + j) Go.undef)) ∧
    (ro = true → qd D μ st w g) ∧ D g ∧ unfz lo hi m

structure srel (D : Nat → Prop) (μ : Mu) (st : List Ob) (w : World) : Prop where
  dom : ∀ g, w.heap.size ≤ g → D g
  row : ∀ id ver sz ro es, st[id]? = some (.row ver sz ro es) → rowOK D μ st w id sz ro es
  inj : ∀ i j v1 s1 e1 v2 s2 e2 g m1 m2, st[i]? = some (.row v1 s1 false e1) → st[j]? = some (.row v2 s2 false e2) → μ i = some (g, m1) → μ j = some (g, m2) → i = j

/-- what was nobody's to change is as it was -/
structure Fr (μ : Mu) (st : List Ob) (w : World) (μ' : Mu) (st' : List Ob) (w' : World) : Prop where
  os : w'.os = w.os
  tape : w'.tape = w.tape
  output : w'.output = w.output
  size : w.heap.size ≤ w'.heap.size
  prot : ∀ g, prot μ st w g → w'.heap[g]? = w.heap[g]? ∧ ¬ live μ' st' g

/-- rows below number n are the same ones, or have grown, or are gone -/
def Ev (n : Nat) (μ : Mu) (st : List Ob) (μ' : Mu) (st' : List Ob) : Prop :=
  n ≤ st'.length ∧ ∀ id, id < n → ∀ ver sz ro es, st'[id]? = some (.row ver sz ro es) → ∃ ver0 ro0 es0, st[id]? = some (.row ver0 sz ro0 es0) ∧ ver0 ≤ ver ∧
    (ro0 = true → ro = true) ∧ (ver0 = ver → es0.length = es.length ∧ μ' id = μ id)

theorem Fr.refl (μ : Mu) (st : List Ob) (w : World) : Fr μ st w μ st w := ⟨rfl, rfl, rfl, Nat.le_refl _, fun _ h => ⟨rfl, h.2⟩⟩
theorem Fr.trans {μ μ' μ'' : Mu} {st st' st'' : List Ob} {w w' w'' : World} (h : Fr μ st w μ' st' w') (k : Fr μ' st' w' μ'' st'' w'') : Fr μ st w μ'' st'' w'' := by
  refine ⟨k.os.trans h.os, k.tape.trans h.tape, k.output.trans h.output, Nat.le_trans h.size k.size, fun g hg => ?_⟩
  obtain ⟨e1, l1⟩ := h.prot g hg
  obtain ⟨e2, l2⟩ := k.prot g ⟨Nat.lt_of_lt_of_le hg.1 h.size, l1⟩
  exact ⟨e2.trans e1, l2⟩
theorem Fr.prot' {μ μ' : Mu} {st st' : List Ob} {w w' : World} (h : Fr μ st w μ' st' w') {g : Nat} (hg : Am.prot μ st w g) : Am.prot μ' st' w' g :=
  ⟨Nat.lt_of_lt_of_le hg.1 h.size, (h.prot g hg).2⟩
theorem Fr.qd {D : Nat → Prop} {μ μ' : Mu} {st st' : List Ob} {w w' : World} (h : Fr μ st w μ' st' w') : ∀ g, Am.qd D μ st w g → Am.qd D μ' st' w' g ∧ w'.heap[g]? = w.heap[g]? :=
  fun g hg => ⟨⟨h.prot' hg.1, hg.2⟩, (h.prot g hg.1).1⟩
theorem Ev.refl {n : Nat} {μ : Mu} {st : List Ob} (h : n ≤ st.length) : Ev n μ st μ st := ⟨h, fun _ _ ver _ ro es h => ⟨ver, ro, es, h, Nat.le_refl _, id, fun _ => ⟨rfl, rfl⟩⟩⟩
theorem Ev.trans {n : Nat} {μ μ' μ'' : Mu} {st st' st'' : List Ob} (h : Ev n μ st μ' st') (k : Ev n μ' st' μ'' st'') : Ev n μ st μ'' st'' := by
  refine ⟨k.1, fun id hid ver sz ro es hes => ?_⟩
  obtain ⟨v1, r1, e1, h1, l1, q1, m1⟩ := k.2 id hid ver sz ro es hes
  obtain ⟨v0, r0, e0, h0, l0, q0, m0⟩ := h.2 id hid v1 sz r1 e1 h1
  refine ⟨v0, r0, e0, h0, Nat.le_trans l0 l1, fun h => q1 (q0 h), fun hv => ?_⟩
  subst hv
  obtain rfl : v1 = v0 := Nat.le_antisymm l1 l0
  exact ⟨(m0 rfl).1.trans (m1 rfl).1, (m1 rfl).2.trans (m0 rfl).2⟩
theorem Ev.mono {n n' : Nat} {μ μ' : Mu} {st st' : List Ob} (h : Ev n μ st μ' st') (hn : n' ≤ n) : Ev n' μ st μ' st' :=
  ⟨Nat.le_trans hn h.1, fun id hid => h.2 id (Nat.lt_of_lt_of_le hid hn)⟩

theorem cell_of_heap {w w' : World} {a : Addr} (h : w'.heap[a.block]? = w.heap[a.block]?) : w'.cell? a = w.cell? a := World.cell?_of_block (w := w) h

theorem irel.keep {Q Q' : Nat → Prop} {w w' : World} (hq : ∀ g, Q g → Q' g ∧ w'.heap[g]? = w.heap[g]?) {x : I} {y : Value} (h : irel Q w x y) : irel Q' w' x y := by
  induction h with
  | int k n => exact .int k n
  | bool b => exact .bool b
  | str s => exact .str s
  | nilp => exact .nilp
  | mp r => exact .mp r
  | bp r => exact .bp r
  | sl0 a c => exact .sl0 a c
  | sl es sz g off c xs hQ hc hs hw hr ih =>
    exact .sl es sz g off c xs (hq g hQ).1 hc hs (fun i cs j v h1 h2 => by rw [cell_of_heap (hq g hQ).2]; exact hw i cs j v h1 h2) ih

theorem refOK.keep {n : Nat} {μ μ' : Mu} {st st' : List Ob} (hn : st.length ≤ n) (he : Ev n μ st μ' st') {id ver off len : Nat} {y : Value} (h : refOK μ st id ver off len y) : refOK μ' st' id ver off len y := by
  obtain ⟨hid, h⟩ := h
  refine ⟨by have := he.1; omega, fun ver' sz ro es hes => ?_⟩
  obtain ⟨v0, r0, e0, h0, l0, _, m0⟩ := he.2 id (by omega) ver' sz ro es hes
  obtain ⟨a, b⟩ := h v0 sz r0 e0 h0
  refine ⟨Nat.le_trans a l0, fun hv => ?_⟩
  subst hv
  obtain rfl : v0 = ver := Nat.le_antisymm l0 a
  obtain ⟨b1, b2⟩ := b rfl
  rw [(m0 rfl).2, ← (m0 rfl).1]
  exact ⟨b1, b2⟩
theorem ptrOK.keep {n : Nat} {μ μ' : Mu} {st st' : List Ob} (hn : st.length ≤ n) (he : Ev n μ st μ' st') {id ver e j : Nat} {y : Value} (h : ptrOK μ st id ver e j y) : ptrOK μ' st' id ver e j y := by
  obtain ⟨hid, h⟩ := h
  refine ⟨by have := he.1; omega, fun ver' sz ro es hes => ?_⟩
  obtain ⟨v0, r0, e0, h0, l0, _, m0⟩ := he.2 id (by omega) ver' sz ro es hes
  obtain ⟨a, b⟩ := h v0 sz r0 e0 h0
  refine ⟨Nat.le_trans a l0, fun hv => ?_⟩
  subst hv
  obtain rfl : v0 = ver := Nat.le_antisymm l0 a
  obtain ⟨b1, b2⟩ := b rfl
  rw [(m0 rfl).2, ← (m0 rfl).1]
  exact ⟨b1, b2⟩

theorem vrel.keep {μ μ' : Mu} {st st' : List Ob} {Q Q' : Nat → Prop} {w w' : World} (he : Ev st.length μ st μ' st') (hq : ∀ g, Q g → Q' g ∧ w'.heap[g]? = w.heap[g]?) {x : V} {y : Value}
    (h : vrel μ st Q w x y) : vrel μ' st' Q' w' x y := by
  induction h with
  | i h => exact .i (h.keep hq)
  | undef y => exact .undef y
  | nils => exact .nils
  | nilf => exact .nilf
  | ref h => exact .ref (h.keep (Nat.le_refl _) he)
  | ptr h => exact .ptr (h.keep (Nat.le_refl _) he)
  | iptr cs j g off xs hQ hw hr => exact .iptr cs j g off xs (hq g hQ).1 (fun j v h => by rw [cell_of_heap (hq g hQ).2]; exact hw j v h) (fun j v h => (hr j v h).keep hq)
  | fn f fs cs fs' cs' h1 h2 h3 h4 i3 i4 => exact .fn f fs cs fs' cs' h1 h2 i3 i4
  | agg cs cs' h1 h2 ih => exact .agg cs cs' h1 ih
  | tup cs cs' h1 h2 ih => exact .tup cs cs' h1 ih

/-- a value of one cell -/
def V.one : V → Bool
  | .agg _ | .tup _ | .undef => false
  | _ => true
theorem irel.one {Q : Nat → Prop} {w : World} {x : I} {y : Value} (h : irel Q w x y) : y.oneCell' = true := by cases h <;> rfl
theorem vrel.one {μ : Mu} {st : List Ob} {Q : Nat → Prop} {w : World} {x : V} {y : Value} (h : vrel μ st Q w x y) (hx : x.one = true) (hs : ∀ id ver off len, x = .ref id ver off len → ∃ o, st[id]? = some o ∧ ∃ sz ro es, o = .row ver sz ro es)
    (hp : ∀ id ver e j, x = .ptr id ver e j → ∃ o, st[id]? = some o ∧ ∃ sz ro es, o = .row ver sz ro es) : y.oneCell' = true := by
  cases h with
  | i h => exact h.one
  | undef y => simp [V.one] at hx
  | nils => rfl
  | nilf => rfl
  | ref h =>
    obtain ⟨o, h0, sz, ro, es, rfl⟩ := hs _ _ _ _ rfl
    obtain ⟨_, h2⟩ := (h.2 _ _ _ _ h0).2 rfl
    rcases h2 with ⟨_, _, rfl⟩ | ⟨_, _, _, _, rfl, _⟩ | ⟨_, _, _, _, rfl⟩ <;> rfl
  | ptr h =>
    obtain ⟨o, h0, sz, ro, es, rfl⟩ := hp _ _ _ _ rfl
    obtain ⟨_, _, _, _, rfl⟩ := (h.2 _ _ _ _ h0).2 rfl
    rfl
  | iptr => rfl
  | fn => rfl
  | agg => simp [V.one] at hx
  | tup => simp [V.one] at hx
end Go.Proofs.YtdbmfnhbgacldaaDoor.Am
