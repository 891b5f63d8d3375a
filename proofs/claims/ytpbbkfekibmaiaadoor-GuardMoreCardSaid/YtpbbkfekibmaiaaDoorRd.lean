/- How an argument's datum is read as a Lean value, kind by kind: whatever reads as a datum of a type has cells that tell a value of that type's kind. No condition. -/
import Derived.Test.YtpbbkfekibmaiaaDoorWWords
import Derived.Deep.Slices
import Derived.ChangeArms
import Derived.WideShapes
import Derived.SizedLaws
import Derived.OpenShut
namespace Go.Proofs.YtpbbkfekibmaiaaDoor.Rd
open Go.RowKit Go.Proofs.YtpbbkfekibmaiaaDoorW.PrintWords Go.WideShapes
/-- Each reading of type t tells a value of kind d with Q. -/
def Reads (P : Program) (t : TypeId) {α : Type} (d : Kd α) (Q : α → Prop) : Prop :=
  ∀ (H : Type) (enc : TypeId × Value → H) (w : World) (base : Nat) (spare : Nat → Bool) (held : Bool) (fuel : Nat) (cs : List Value) (x : DataW H × List MemPlace),
    DataW.trod enc P w base spare held fuel t cs = some x → ∃ a, d.K w a cs ∧ Q a

theorem Reads.int {P : Program} {t : TypeId} {k : IntKind} (ht : P.underlying t = some (.int k)) : Reads P t (Kd.int k) (fun n => (Lit.int k n).wf = true) := by
  intro H enc w base spare held fuel cs x h
  obtain ⟨n, rfl, _, hw⟩ := DataW.trod_int ht h
  exact ⟨n, rfl, hw⟩
theorem Reads.bool {P : Program} {t : TypeId} (ht : P.underlying t = some .bool) : Reads P t Kd.bool (fun _ => True) := by
  intro H enc w base spare held fuel cs x h
  obtain ⟨n, rfl, _⟩ := DataW.trod_bool ht h
  exact ⟨n, rfl, trivial⟩
theorem Reads.string {P : Program} {t : TypeId} (ht : P.underlying t = some .string) : Reads P t Kd.string (fun s => s.size ≤ maxLen) := by
  intro H enc w base spare held fuel cs x h
  obtain ⟨n, rfl, _, hw⟩ := DataW.trod_string ht h
  exact ⟨n, rfl, hw⟩

theorem choose_list {α : Type} {p : Nat → α → Prop} : ∀ n, (∀ i, i < n → ∃ a, p i a) → ∃ l : List α, l.length = n ∧ ∀ i a, l[i]? = some a → p i a
  | 0, _ => ⟨[], rfl, fun i a h => by simp at h⟩
  | n + 1, h => by
    obtain ⟨l, hl, hp⟩ := choose_list n (fun i hi => h i (by omega))
    obtain ⟨a, ha⟩ := h n (by omega)
    refine ⟨l ++ [a], by simp [hl], fun i b hb => ?_⟩
    rcases Nat.lt_or_ge i l.length with hi | hi
    · rw [List.getElem?_append_left hi] at hb
      exact hp i b hb
    · have hi' : i = l.length := by
        have := (List.getElem?_eq_some_iff.1 hb).1
        simp at this
        omega
      subst hi'
      have : a = b := by simpa using hb
      subst this
      rw [hl]
      exact ha

theorem Reads.slice {P : Program} {t e : TypeId} {α : Type} {d : Kd α} {Q : α → Prop} (ht : P.underlying t = some (.slice e)) (he : Reads P e d Q) (hc : P.cellsOf e = d.sz) :
    Reads P t (Kd.slice e d) (fun xs => xs.length ≤ maxLen ∧ ∀ x ∈ xs, Q x) := by
  intro H enc w base spare held fuel cs x h
  rcases Go.Deep.open_slice ht h with ⟨rfl, _⟩ | ⟨a, len, cap, m, n, D, Pl, rfl, hb, hl, hm, hmm, _, hx⟩
  · exact ⟨[], ⟨none, 0, rfl, Nat.le_refl _, rfl, by simp, fun h => by simp at h⟩, by simp, fun x hx => by cases hx⟩
  · have hlm : len ≤ m := by rw [hmm]; split <;> omega
    obtain ⟨l, hll, hp⟩ := choose_list (p := fun i (y : α) => ∃ cs', w.cells? base (a.add (i * P.cellsOf e)) (P.cellsOf e) = some cs' ∧ d.K w y cs' ∧ Q y) len (fun i hi => by
      obtain ⟨cs', h1, h2⟩ := hx i (by omega)
      obtain ⟨y, hy, hq⟩ := he _ _ _ _ _ _ _ _ _ h2
      exact ⟨y, cs', h1, hy, hq⟩)
    have hmax : maxLen = 9223372036854775807 := rfl
    refine ⟨l, ⟨some a, cap, by rw [hll], by omega, rfl, by omega, fun _ => ⟨a, rfl, fun j p hj => ?_⟩⟩, by omega, fun y hy => ?_⟩
    · obtain ⟨cs', h1, h2, _⟩ := hp j p hj
      obtain ⟨_, hlen, hcell⟩ := World.cells?_some h1
      refine ⟨cs', by rw [hlen, hc], h2, fun i u hu => ?_⟩
      have hi : i < P.cellsOf e := by
        have := (List.getElem?_eq_some_iff.1 hu).1
        omega
      have := hcell i hi
      rw [hu, hc] at this
      rw [← this]
      congr 1
      rw [Addr.add_add]
    · obtain ⟨j, hj⟩ := List.mem_iff_getElem?.1 hy
      obtain ⟨_, _, _, hq⟩ := hp j y hj
      exact hq

/-- The fields from place 'off' on. -/
def ReadsF (P : Program) (fs : List Field) (off : Nat) {α : Type} (d : Kd α) (Q : α → Prop) : Prop :=
  ∀ (H : Type) (enc : TypeId × Value → H) (w : World) (base : Nat) (spare : Nat → Bool) (held : Bool) (fuel : Nat) (cs : List Value), cs.length = off + d.sz →
    (∀ f ∈ fs, ∃ x, DataW.trod enc P w base spare held fuel f.type ((cs.drop f.offset).take (P.cellsOf f.type)) = some x) → ∃ a, d.K w a (cs.drop off) ∧ Q a

theorem ReadsF.one {P : Program} {f : Field} {α : Type} {d : Kd α} {Q : α → Prop} (h : Reads P f.type d Q) (hc : P.cellsOf f.type = d.sz) : ReadsF P [f] f.offset d Q := by
  intro H enc w base spare held fuel cs hl hx
  obtain ⟨x, hx⟩ := hx f (by simp)
  obtain ⟨a, ha, hq⟩ := h _ _ _ _ _ _ _ _ _ hx
  refine ⟨a, ?_, hq⟩
  rw [hc, List.take_of_length_le (by rw [List.length_drop]; omega)] at ha
  exact ha
theorem ReadsF.cons {P : Program} {f : Field} {fs : List Field} {α β : Type} {d : Kd α} {d' : Kd β} {Q : α → Prop} {Q' : β → Prop} (h : Reads P f.type d Q) (hc : P.cellsOf f.type = d.sz) (h' : ReadsF P fs (f.offset + d.sz) d' Q') :
    ReadsF P (f :: fs) f.offset (Kd.pair d d') (fun x => Q x.1 ∧ Q' x.2) := by
  intro H enc w base spare held fuel cs hl hx
  obtain ⟨x, hx0⟩ := hx f (by simp)
  obtain ⟨a, ha, hq⟩ := h _ _ _ _ _ _ _ _ _ hx0
  have hl' : cs.length = f.offset + (d.sz + d'.sz) := hl
  obtain ⟨b, hb, hq'⟩ := h' H enc w base spare held fuel cs (by omega) (fun g hg => hx g (List.mem_cons_of_mem _ hg))
  refine ⟨(a, b), ⟨_, _, ?_, ha, hb⟩, hq, hq'⟩
  rw [hc, ← List.drop_drop, List.take_append_drop]
theorem Reads.struct {P : Program} {t : TypeId} {fs : Array Field} {α β : Type} {d : Kd α} {Q : α → Prop} (ht : P.underlying t = some (.struct fs)) (hc : P.cellsOf t = d.sz) (h : ReadsF P fs.toList 0 d Q) (f : β → α) (g : α → β) (hfg : ∀ a, f (g a) = a) :
    Reads P t (Kd.iso d f) (fun b => Q (f b)) := by
  intro H enc w base spare held fuel cs x hx
  obtain ⟨xs, n, _, _, hl, hxs, hf⟩ := DataW.trod_struct ht hx
  obtain ⟨a, ha, hq⟩ := h H enc w base spare held n cs (by omega) (fun f hfm => by
    obtain ⟨i, hi⟩ := List.mem_iff_getElem?.1 hfm
    have := hf i f (by simpa using hi)
    have hlt : i < xs.length := by
      rw [hxs]
      have := (List.getElem?_eq_some_iff.1 hi).1
      simpa using this
    exact ⟨xs[i], by rw [this, List.getElem?_eq_getElem hlt]⟩)
  rw [List.drop_zero] at ha
  refine ⟨g a, ?_, ?_⟩
  · show d.K w (f (g a)) cs
    rw [hfg]; exact ha
  · show Q (f (g a))
    rw [hfg]; exact hq

/-- A struct by value. -/
theorem Reads.agg {P : Program} {t : TypeId} {fs : Array Field} {α : Type} {d : Kd α} {Q : α → Prop} (ht : P.underlying t = some (.struct fs)) (h : Reads P t d Q) {r : Reach} {b0 : Nat} {v : Value} {H : Type} {enc : TypeId × Value → H} {w : World} {base : Nat} {spare : Nat → Bool} {held : Bool} {x : DataW H} {p : List MemPlace}
    (hv : Value.okWide P w r b0 t v) (hx : DataW.Trod enc P w base spare held t v x p) : ∃ cs a, v = .agg cs ∧ d.K w a cs.toList ∧ Q a := by
  obtain ⟨cs, rfl, _⟩ := okWide_struct ht hv
  obtain ⟨fuel, hf⟩ := hx
  obtain ⟨a, ha, hq⟩ := h _ _ _ _ _ _ _ _ _ hf
  exact ⟨cs, a, rfl, ha, hq⟩
/-- A slice by value. -/
theorem Reads.sl {P : Program} {t e : TypeId} {α : Type} {d : Kd α} {Q : List α → Prop} (ht : P.underlying t = some (.slice e)) (h : Reads P t (Kd.slice e d) Q) {r : Reach} {b0 : Nat} {v : Value} {H : Type} {enc : TypeId × Value → H} {w : World} {base : Nat} {spare : Nat → Bool} {held : Bool} {x : DataW H} {p : List MemPlace}
    (hv : Value.okWide P w r b0 t v) (hx : DataW.Trod enc P w base spare held t v x p) : ∃ A c l, v = .slice A l.length c ∧ l.length ≤ c ∧ d.C w A l.length l ∧ Q l := by
  obtain ⟨A, len, c, rfl⟩ := okWide_slice ht hv
  obtain ⟨fuel, hf⟩ := hx
  obtain ⟨l, ⟨A', c', he, hl, hC⟩, hq⟩ := h _ _ _ _ _ _ _ _ _ hf
  have he' : ([Value.slice A len c] : List Value) = [Value.slice A' l.length c'] := he
  simp only [List.cons.injEq, Value.slice.injEq, and_true] at he'
  obtain ⟨rfl, rfl, rfl⟩ := he'
  exact ⟨A, c, l, rfl, hl, hC, hq⟩
theorem wf_i64 {n : Int} (h : (Lit.int .i64 n).wf = true) : -9223372036854775808 ≤ n ∧ n ≤ 9223372036854775807 := bounds_i64 h
end Go.Proofs.YtpbbkfekibmaiaaDoor.Rd
