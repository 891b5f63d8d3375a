/- The logic: what a row's arguments are, read as data; a contract's end at a row. -/
import Derived.Test.YtdbmfnhbgacldaaDoorAmR
import Derived.Deep.Slices
import Derived.ChangeArms
import Derived.WideShapes
import Derived.SizedLaws
import Derived.OpenShut
namespace Go.Proofs.YtdbmfnhbgacldaaDoor.Am
open Go.RowKit Go.WideShapes
set_option autoImplicit false
set_option linter.unusedVariables false
set_option linter.unusedSimpArgs false

/-- data in the blocks that there are -/
def inW (w : World) (g : Nat) : Prop := g < w.heap.size
def tells (w : World) (is : List I) (cs : List Value) : Prop := cs.length = is.length ∧ ∀ (j : Nat) (v : I), is[j]? = some v → irel (inW w) w v (cs.getD j Go.undef)
def everyD : Nat → Prop := fun _ => True
def noMu : Mu := fun _ => none
theorem inW_qd {w : World} {g : Nat} : inW w g → qd everyD noMu [] w g := fun h => ⟨⟨h, fun ⟨id, ver, sz, es, m, h1, h2⟩ => by simp at h1⟩, trivial⟩

/-- each reading of a value of type t is data -/
def Reads (P : Program) (t : TypeId) {α : Type} (d : α → List I) (Q : α → Prop) : Prop :=
  ∀ (H : Type) (enc : TypeId × Value → H) (w : World) (base : Nat) (spare : Nat → Bool) (held : Bool) (fuel : Nat) (cs : List Value) (x : DataW H × List MemPlace),
    DataW.trod enc P w base spare held fuel t cs = some x → ∃ a, tells w (d a) cs ∧ Q a

theorem Reads.int {P : Program} {t : TypeId} {k : IntKind} (ht : P.underlying t = some (.int k)) : Reads P t (fun n => [.int k n]) (fun n => (Lit.int k n).wf = true) := by
  intro H enc w base spare held fuel cs x h
  obtain ⟨n, rfl, _, hw⟩ := DataW.trod_int ht h
  refine ⟨n, ⟨rfl, fun j v hj => ?_⟩, hw⟩
  cases j with
  | zero => simp at hj; subst hj; exact .int k n
  | succ j => simp at hj
theorem Reads.bool {P : Program} {t : TypeId} (ht : P.underlying t = some .bool) : Reads P t (fun b => [.bool b]) (fun _ => True) := by
  intro H enc w base spare held fuel cs x h
  obtain ⟨n, rfl, _⟩ := DataW.trod_bool ht h
  refine ⟨n, ⟨rfl, fun j v hj => ?_⟩, trivial⟩
  cases j with
  | zero => simp at hj; subst hj; exact .bool n
  | succ j => simp at hj
theorem Reads.string {P : Program} {t : TypeId} (ht : P.underlying t = some .string) : Reads P t (fun s => [.str s]) (fun s => s.size ≤ maxLen) := by
  intro H enc w base spare held fuel cs x h
  obtain ⟨n, rfl, _, hw⟩ := DataW.trod_string ht h
  refine ⟨n, ⟨rfl, fun j v hj => ?_⟩, hw⟩
  cases j with
  | zero => simp at hj; subst hj; exact .str n
  | succ j => simp at hj

theorem choose_list {α : Type} {p : Nat → α → Prop} : ∀ n, (∀ i, i < n → ∃ a, p i a) → ∃ l : List α, l.length = n ∧ ∀ (i : Nat) (a : α), l[i]? = some a → p i a
  | 0, _ => ⟨[], rfl, fun i a h => by simp at h⟩
  | n + 1, h => by
    obtain ⟨l, hl, hp⟩ := choose_list n (fun i hi => h i (by omega))
    obtain ⟨a, ha⟩ := h n (by omega)
    refine ⟨l ++ [a], by simp [hl], fun i b hb => ?_⟩
    rcases Nat.lt_or_ge i l.length with hi | hi
    · rw [List.getElem?_append_left hi] at hb
      exact hp i b hb
    · have hi' : i = l.length := by
        have := (List.getElem?_eq_some_iff.1 hb).1
        simp at this
        omega
      subst hi'
      have : a = b := by simpa using hb
      subst this
      rw [hl]
      exact ha

theorem Reads.slice {P : Program} {t e : TypeId} {α : Type} {d : α → List I} {Q : α → Prop} (ht : P.underlying t = some (.slice e)) (he : Reads P e d Q) (hc : 0 < P.cellsOf e) :
    Reads P t (fun xs : List α => [.sl (xs.map d)]) (fun xs => xs.length ≤ maxLen ∧ ∀ x ∈ xs, Q x) := by
  intro H enc w base spare held fuel cs x h
  rcases Go.Deep.open_slice ht h with ⟨rfl, _⟩ | ⟨a, len, cap, m, n, D, Pl, rfl, hb, hl, hm, hmm, _, hx⟩
  · refine ⟨[], ⟨rfl, fun j v hj => ?_⟩, Nat.zero_le _, fun x hx => by cases hx⟩
    cases j with
    | zero => simp at hj; subst hj; exact .sl0 none 0
    | succ j => simp at hj
  · have hlm : len ≤ m := by rw [hmm]; split <;> omega
    obtain ⟨l, hll, hp⟩ := choose_list (p := fun i (y : α) => ∃ cs', w.cells? base (a.add (i * P.cellsOf e)) (P.cellsOf e) = some cs' ∧ tells w (d y) cs' ∧ Q y) len (fun i hi => by
      obtain ⟨cs', h1, h2⟩ := hx i (by omega)
      obtain ⟨y, hy, hq⟩ := he _ _ _ _ _ _ _ _ _ h2
      exact ⟨y, cs', h1, hy, hq⟩)
    refine ⟨l, ⟨rfl, fun j v hj => ?_⟩, by have : maxLen = 9223372036854775807 := rfl; omega, fun y hy => ?_⟩
    · cases j with
      | succ j => simp at hj
      | zero =>
        simp at hj; subst hj
        show irel (inW w) w (.sl (l.map d)) (.slice (some a) len cap)
        by_cases hl0 : len = 0
        · subst hl0
          rw [List.eq_nil_of_length_eq_zero hll]
          exact .sl0 _ _
        · have hcell : ∀ (i j : Nat), i < len → j < P.cellsOf e → ∃ cs' v, w.cells? base (a.add (i * P.cellsOf e)) (P.cellsOf e) = some cs' ∧ cs'[j]? = some v ∧ w.cell? (a.add (i * P.cellsOf e + j)) = some v := by
            intro i j hi hj
            obtain ⟨cs', h1, _⟩ := hx i (by omega)
            obtain ⟨_, h2, h3⟩ := World.cells?_some h1
            have h4 : cs'[j]? = some cs'[j] := List.getElem?_eq_getElem (by omega)
            refine ⟨cs', _, h1, h4, ?_⟩
            rw [← Go.Deep.add_add, h3 j hj, h4]
          have hspot : a.spot = none ∧ a.block < w.heap.size := by
            obtain ⟨_, v, _, _, h⟩ := hcell 0 0 (by omega) hc
            simp only [Nat.zero_mul, Nat.add_zero, Addr.add, if_true] at h
            unfold World.cell? at h
            cases hb : w.heap[a.block]? with
            | none => simp [hb] at h
            | some o =>
              refine ⟨?_, (Array.getElem?_eq_some_iff.1 hb).1⟩
              rw [hb] at h
              cases o with
              | cells c T f =>
                simp only at h
                split at h
                · cases h
                · rename_i hs; cases hh : a.spot with
                  | none => rfl
                  | some x => simp [hh] at hs
              | _ => cases h
          obtain ⟨g, off, spot⟩ := a
          simp only at hspot
          obtain ⟨rfl, hg⟩ := hspot
          have hadd : ∀ n : Nat, (Addr.add ⟨g, off, none⟩ n) = ⟨g, off + n, none⟩ := fun n => by
            unfold Addr.add
            split
            · rename_i h; subst h; rfl
            · rfl
          have hlen : (l.map d).length = len := by simp [hll]
          have hsz : ∀ (i : Nat) (cs : List I), (l.map d)[i]? = some cs → cs.length = P.cellsOf e := by
            intro i cs hi
            simp only [List.getElem?_map, Option.map_eq_some_iff] at hi
            obtain ⟨y, hy, rfl⟩ := hi
            obtain ⟨cs', h1, h2, _⟩ := hp i y hy
            rw [← h2.1]
            exact (World.cells?_some h1).2.1
          have := irel.sl (Q := inW w) (w := w) (l.map d) (P.cellsOf e) g off cap (fun i j => (w.cell? ⟨g, off + (i * P.cellsOf e + j), none⟩).getD Go.undef) hg (by omega) hsz
            (fun i cs j v hi hj => by
              have hi' := lt_of_get? hi
              have hj' := lt_of_get? hj
              rw [hsz i cs hi] at hj'
              obtain ⟨_, v, _, _, h⟩ := hcell i j (by omega) hj'
              rw [hadd] at h
              rw [h]; rfl)
            (fun i cs j v hi hj => by
              have hj' := lt_of_get? hj
              rw [hsz i cs hi] at hj'
              have hi' := lt_of_get? hi
              simp only [List.getElem?_map, Option.map_eq_some_iff] at hi
              obtain ⟨y, hy, rfl⟩ := hi
              obtain ⟨cs', h1, h2, _⟩ := hp i y hy
              obtain ⟨cs2, v2, h3, h4, h5⟩ := hcell i j (by omega) hj'
              rw [h1] at h3; cases h3
              rw [hadd] at h5
              rw [h5]
              have := h2.2 j v hj
              simpa [List.getD_eq_getElem?_getD, h4] using this)
          rw [hlen] at this
          exact this
    · obtain ⟨j, hj⟩ := List.mem_iff_getElem?.1 hy
      obtain ⟨_, _, _, hq⟩ := hp j y hj
      exact hq

/-- the fields from place 'off' on -/
def ReadsF (P : Program) (fs : List Field) (off sz : Nat) {α : Type} (d : α → List I) (Q : α → Prop) : Prop :=
  ∀ (H : Type) (enc : TypeId × Value → H) (w : World) (base : Nat) (spare : Nat → Bool) (held : Bool) (fuel : Nat) (cs : List Value), cs.length = off + sz →
    (∀ f ∈ fs, ∃ x, DataW.trod enc P w base spare held fuel f.type ((cs.drop f.offset).take (P.cellsOf f.type)) = some x) → ∃ a, tells w (d a) (cs.drop off) ∧ Q a
theorem ReadsF.one {P : Program} {f : Field} {α : Type} {d : α → List I} {Q : α → Prop} (h : Reads P f.type d Q) : ReadsF P [f] f.offset (P.cellsOf f.type) d Q := by
  intro H enc w base spare held fuel cs hl hx
  obtain ⟨x, hx⟩ := hx f (by simp)
  obtain ⟨a, ha, hq⟩ := h _ _ _ _ _ _ _ _ _ hx
  refine ⟨a, ?_, hq⟩
  rw [List.take_of_length_le (by rw [List.length_drop]; omega)] at ha
  exact ha
theorem ReadsF.cons {P : Program} {f : Field} {fs : List Field} {sz : Nat} {α β : Type} {d : α → List I} {d' : β → List I} {Q : α → Prop} {Q' : β → Prop} (h : Reads P f.type d Q) (h' : ReadsF P fs (f.offset + P.cellsOf f.type) sz d' Q') :
    ReadsF P (f :: fs) f.offset (P.cellsOf f.type + sz) (fun x : α × β => d x.1 ++ d' x.2) (fun x => Q x.1 ∧ Q' x.2) := by
  intro H enc w base spare held fuel cs hl hx
  obtain ⟨x, hx0⟩ := hx f (by simp)
  obtain ⟨a, ha, hq⟩ := h _ _ _ _ _ _ _ _ _ hx0
  obtain ⟨b, hb, hq'⟩ := h' H enc w base spare held fuel cs (by omega) (fun g hg => hx g (List.mem_cons_of_mem _ hg))
  have e1 := ha.1
  have e2 := hb.1
  simp only [List.length_take, List.length_drop] at e1 e2
  refine ⟨(a, b), ⟨by simp only [List.length_append, List.length_drop]; omega, fun j v hj => ?_⟩, hq, hq'⟩
  rcases Nat.lt_or_ge j (d a).length with hjl | hjl
  · simp only [List.getElem?_append_left hjl] at hj
    have := ha.2 j v hj
    have hj2 : j < P.cellsOf f.type := by omega
    simp only [List.getD_eq_getElem?_getD, List.getElem?_take, hj2, if_true] at this ⊢
    exact this
  · simp only [List.getElem?_append_right hjl] at hj
    have := hb.2 _ v hj
    have hj3 := lt_of_get? hj
    simp only [List.getD_eq_getElem?_getD, List.getElem?_drop] at this ⊢
    rwa [show f.offset + P.cellsOf f.type + (j - (d a).length) = f.offset + j by omega] at this
theorem Reads.struct {P : Program} {t : TypeId} {fs : Array Field} {sz : Nat} {α : Type} {d : α → List I} {Q : α → Prop} (ht : P.underlying t = some (.struct fs)) (hc : P.cellsOf t = sz) (h : ReadsF P fs.toList 0 sz d Q) : Reads P t d Q := by
  intro H enc w base spare held fuel cs x hx
  obtain ⟨xs, n, _, _, hl, hxs, hf⟩ := DataW.trod_struct ht hx
  obtain ⟨a, ha, hq⟩ := h H enc w base spare held n cs (by omega) (fun f hfm => by
    obtain ⟨i, hi⟩ := List.mem_iff_getElem?.1 hfm
    have := hf i f (by simpa using hi)
    have hlt : i < xs.length := by
      rw [hxs]
      have := (List.getElem?_eq_some_iff.1 hi).1
      simpa using this
    exact ⟨xs[i], by rw [this, List.getElem?_eq_getElem hlt]⟩)
  exact ⟨a, by simpa using ha, hq⟩
theorem Reads.map {P : Program} {t : TypeId} {α β : Type} {d : α → List I} {Q : α → Prop} {d' : β → List I} {Q' : β → Prop} (h : Reads P t d Q) (f : α → β) (hf : ∀ a, d' (f a) = d a) (hq : ∀ a, Q a → Q' (f a)) : Reads P t d' Q' := by
  intro H enc w base spare held fuel cs x hx
  obtain ⟨a, ha, hqa⟩ := h _ _ _ _ _ _ _ _ _ hx
  exact ⟨f a, by rw [hf]; exact ha, hq a hqa⟩

section
variable {P : Program} {G : Gl}
/-- a struct by value -/
theorem Reads.agg {t : TypeId} {fs : Array Field} {α : Type} {d : α → List I} {Q : α → Prop} (ht : P.underlying t = some (.struct fs)) (h : Reads P t d Q) {r : Reach} {b0 : Nat} {v : Value} {H : Type} {enc : TypeId × Value → H} {w : World} {base : Nat} {spare : Nat → Bool} {held : Bool} {x : DataW H} {p : List MemPlace}
    (hv : Value.okWide P w r b0 t v) (hx : DataW.Trod enc P w base spare held t v x p) : ∃ a, vrel noMu [] (qd everyD noMu [] w) w (.agg ((d a).map .i)) v ∧ Q a := by
  obtain ⟨cs, rfl, _⟩ := okWide_struct ht hv
  obtain ⟨fuel, hf⟩ := hx
  obtain ⟨a, ha, hq⟩ := h _ _ _ _ _ _ _ _ _ hf
  refine ⟨a, .agg _ cs (by have := ha.1; simpa [Value.cells] using this) (fun j u hj => ?_), hq⟩
  simp only [List.getElem?_map, Option.map_eq_some_iff] at hj
  obtain ⟨u, hu, rfl⟩ := hj
  have := ha.2 j u hu
  exact .i (by simpa [Value.cells, List.getD_eq_getElem?_getD] using this.keep fun g hg => ⟨inW_qd hg, rfl⟩)
/-- what is one cell, by value -/
theorem Reads.one {t : TypeId} {α : Type} {d : α → I} {Q : α → Prop} (h : Reads P t (fun a => [d a]) Q) {v : Value} {H : Type} {enc : TypeId × Value → H} {w : World} {base : Nat} {spare : Nat → Bool} {held : Bool} {x : DataW H} {p : List MemPlace}
    (hv : v.cells = #[v]) (hx : DataW.Trod enc P w base spare held t v x p) : ∃ a, vrel noMu [] (qd everyD noMu [] w) w (.i (d a)) v ∧ Q a := by
  obtain ⟨fuel, hf⟩ := hx
  obtain ⟨a, ha, hq⟩ := h _ _ _ _ _ _ _ _ _ hf
  refine ⟨a, .i ?_, hq⟩
  have := ha.2 0 (d a) rfl
  simpa [hv, List.getD_eq_getElem?_getD] using this.keep fun g hg => ⟨inW_qd hg, rfl⟩

theorem vrels_nil {Q : Nat → Prop} {w : World} : vrels noMu [] Q w [] #[] := ⟨rfl, fun j v hj => by simp at hj⟩
theorem vrels_of {Q : Nat → Prop} {w : World} : ∀ {vs : List V} {ys : List Value}, List.length ys = List.length vs → (∀ (j : Nat) (v : V) (y : Value), vs[j]? = some v → ys[j]? = some y → vrel noMu [] Q w v y) → vrels noMu [] Q w vs ys.toArray := by
  intro vs ys hl h
  refine ⟨by simpa using hl, fun j v hj => ?_⟩
  have hjl := lt_of_get? hj
  have hy : ys[j]? = some (ys[j]'(by omega)) := List.getElem?_eq_getElem (by omega)
  have := h j v _ hj hy
  rw [Array.getD_eq_getD_getElem?, List.getElem?_toArray, hy]
  exact this

/-- a contract's end at a row: it returns true, and what there was is as it was -/
theorem CallW.said {f : FuncId} {args : List V} {args' : Array Value} {W : World} {K : V → List Ob → Prop} (h : CallW P G f args [] K) (hK : ∀ r st', K r st' → r = .i (.bool true)) (hg : GOk everyD G noMu [] W) (ha : vrels noMu [] (qd everyD noMu [] W) W args args') :
    Calls P f args' W (fun e W' => e = .returned (.bool true) ∧ Below W.heap.size W W') := by
  refine (h.calls everyD noMu W args' hg ha ⟨fun _ _ => trivial, fun id ver sz ro es hi => by simp at hi, fun i j v1 s1 e1 v2 s2 e2 g m1 m2 hi => by simp at hi⟩).mono fun e W' he => ?_
  obtain ⟨r, r', st', μ', rfl, hk, hv, _, hf, _⟩ := he
  rw [hK r st' hk] at hv
  refine ⟨?_, hf.os, hf.tape, hf.output, hf.size, fun k hk => (hf.prot k ⟨hk, fun ⟨id, ver, sz, es, m, h1, h2⟩ => by simp at h1⟩).1⟩
  cases hv with | i h => cases h; rfl
end
end Go.Proofs.YtdbmfnhbgacldaaDoor.Am
