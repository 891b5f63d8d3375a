/- The logic: a contract behind rows that it does not touch. -/
import Derived.Test.YtdbmfnhbgacldaaDoorAmU
namespace Go.Proofs.YtdbmfnhbgacldaaDoor.Am
set_option autoImplicit false
set_option linter.unusedVariables false
set_option linter.unusedSimpArgs false
theorem getD_app_right {α : Type} {a b : List α} {i : Nat} {d : α} : (a ++ b).getD (a.length + i) d = b.getD i d := by
  simp [List.getD_eq_getElem?_getD, List.getElem?_append_right]
section
variable {P : Program} {G : Gl}
theorem CallW.under {f : FuncId} {args : List V} {st0 : List Ob} {K : V → List Ob → Prop} (pre : List Ob) (h : CallW P G f args st0 K) (hcl : ∀ o ∈ st0, o.cl st0.length) (ha : V.cl.clAll st0.length args = true) :
    CallW P G f (V.ren.renAll (fun i => pre.length + i) args) (pre ++ st0.map (Ob.ren fun i => pre.length + i)) (fun r st' => ∃ r0 s0, K r0 s0 ∧ st0.length ≤ s0.length ∧ r = r0.ren (fun i => pre.length + i) ∧ st' = pre ++ s0.map (Ob.ren fun i => pre.length + i)) := by
  have hK : CallW P G f args st0 (fun r st' => K r st' ∧ st0.length ≤ st'.length) := ⟨h.enter, fun D μ w args' hg ha hs => (h.calls D μ w args' hg ha hs).mono fun e w' ⟨r, r', st', μ', a, b, c, d, x, y⟩ => ⟨r, r', st', μ', a, ⟨b, y.1⟩, c, d, x, y⟩⟩
  have hbl : (pre ++ st0.map (Ob.ren fun i => pre.length + i)).length = pre.length + st0.length := by simp
  have hfm : fm ((List.range st0.length).map fun i => pre.length + i) (pre ++ st0.map (Ob.ren fun i => pre.length + i)).length = fun i => pre.length + i := by
    funext i
    unfold fm
    rw [hbl]
    by_cases hi : i < st0.length
    · simp [hi]
    · have : ((List.range st0.length).map fun i => pre.length + i)[i]? = none := List.getElem?_eq_none (by simp; omega)
      rw [this]
      simp; omega
  have hnd : ((List.range st0.length).map fun i => pre.length + i).Nodup := by
    rw [List.nodup_iff_pairwise_ne, List.pairwise_map]
    exact (List.nodup_iff_pairwise_ne.1 List.nodup_range).imp fun hab => by omega
  have hlt : ∀ i ∈ (List.range st0.length).map fun i => pre.length + i, i < (pre ++ st0.map (Ob.ren fun i => pre.length + i)).length := by
    intro i hi
    simp only [List.mem_map, List.mem_range] at hi
    obtain ⟨j, hj, rfl⟩ := hi
    rw [hbl]; omega
  have hput : ∀ os : List Ob, st0.length ≤ os.length → putAll (pre ++ st0.map (Ob.ren fun i => pre.length + i)) ((List.range st0.length).map fun i => pre.length + i) os = pre ++ os := by
    intro os hos
    obtain ⟨p1, p2, p3, p4⟩ := putAll_spec _ (pre ++ st0.map (Ob.ren fun i => pre.length + i)) os hlt hnd (by simpa using hos)
    apply List.ext_getElem?
    intro id
    rcases Nat.lt_or_ge id pre.length with h1 | h1
    · rw [p2 id (by rw [hbl]; omega) (fun hm => by simp only [List.mem_map, List.mem_range] at hm; obtain ⟨j, _, e⟩ := hm; omega), List.getElem?_append_left h1, List.getElem?_append_left h1]
    · rw [List.getElem?_append_right h1]
      rcases Nat.lt_or_ge id (pre.length + st0.length) with h2 | h2
      · exact p3 (id - pre.length) id (by rw [List.getElem?_map, List.getElem?_range (by omega)]; exact congrArg some (show pre.length + (id - pre.length) = id by omega))
      · have := p4 (id - (pre.length + st0.length))
        rw [hbl] at this
        simp only [List.length_map, List.length_range] at this
        rw [show pre.length + st0.length + (id - (pre.length + st0.length)) = id by omega] at this
        rw [this]
        congr 1; omega
  have := CallW.rise (bargs := V.ren.renAll (fun i => pre.length + i) args) (big := pre ++ st0.map (Ob.ren fun i => pre.length + i)) ((List.range st0.length).map fun i => pre.length + i) [] hK (by simp) hnd hlt (by
    rw [hfm]
    apply List.ext_getElem?
    intro i
    simp only [List.getElem?_map]
    by_cases hi : i < st0.length
    · rw [List.getElem?_range hi]
      simp only [Option.map_some]
      rw [getD_app_right]
      simp [List.getD_eq_getElem?_getD, hi]
    · rw [List.getElem?_eq_none (by omega), List.getElem?_eq_none (by simp; omega)]
      rfl) hcl (by simp) (renAll_len _ _) (fun j s v hs hv => by
    rw [renAll_get, hs] at hv
    simp only [Option.map_some, Option.some.injEq] at hv
    subst hv
    exact .inl ⟨clAll_get ha j s hs, by rw [hfm]⟩) (.inl rfl)
  refine this.mono ?_
  rintro r st' ⟨r0, s0, ⟨hk, hl⟩, rfl, rfl⟩
  rw [hfm]
  exact ⟨r0, s0, hk, hl, rfl, hput _ (by simpa using hl)⟩
end
end Go.Proofs.YtdbmfnhbgacldaaDoor.Am
