/- Arguments read as data: arrays of one cell an element. -/
import Derived.Test.YtdbmfnhbgacldaaDoorAmRd
namespace Go.Proofs.YtdbmfnhbgacldaaDoor.Am
set_option autoImplicit false
theorem Reads.array {P : Program} {t e : TypeId} {n : Nat} {α : Type} {d : α → I} {Q : α → Prop} (ht : P.underlying t = some (.array n e)) (he : Reads P e (fun a => [d a]) Q) (hce : P.cellsOf e = 1) (hct : P.cellsOf t = n) :
    Reads P t (fun l : List α => l.map d) (fun l => l.length = n ∧ ∀ x ∈ l, Q x) := by
  intro H enc w base spare held fuel cs x h
  obtain ⟨xs, m, rfl, _, hcl, hxl, hf⟩ := DataW.trod_array ht h
  rw [hce] at hf
  obtain ⟨l, hl, hp⟩ := choose_list (p := fun i (a : α) => tells w [d a] ((cs.drop i).take 1) ∧ Q a) n (fun i hi => by
    have := hf i hi
    rw [Nat.mul_one, List.getElem?_eq_getElem (by omega)] at this
    exact he _ _ _ _ _ _ _ _ _ this)
  refine ⟨l, ⟨by rw [hcl, hct, List.length_map, hl], fun j v hv => ?_⟩, hl, fun x hx => ?_⟩
  · simp only [List.getElem?_map, Option.map_eq_some_iff] at hv
    obtain ⟨a, ha, rfl⟩ := hv
    have := (hp j a ha).1.2 0 (d a) rfl
    have e : ((cs.drop j).take 1).getD 0 Go.undef = cs.getD j Go.undef := by simp [List.getD_eq_getElem?_getD]
    rw [e] at this; exact this
  · obtain ⟨i, hi⟩ := List.mem_iff_getElem?.1 hx
    exact (hp i x hi).2
end Go.Proofs.YtdbmfnhbgacldaaDoor.Am
