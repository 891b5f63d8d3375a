/- The logic: nil slices told as data. -/
import Derived.Test.YtdbmfnhbgacldaaDoorAmV
namespace Go.Proofs.YtdbmfnhbgacldaaDoor.Am
set_option autoImplicit false
set_option linter.unusedVariables false
set_option linter.unusedSimpArgs false
def V.nd : V → V
  | .nils => .i (.sl [])
  | .agg cs => .agg (ndAll cs)
  | .tup cs => .tup (ndAll cs)
  | v => v
where ndAll : List V → List V
  | [] => []
  | v :: vs => V.nd v :: ndAll vs
theorem ndAll_get : ∀ (vs : List V) (j : Nat), (V.nd.ndAll vs)[j]? = (vs[j]?).map V.nd
  | [], j => by simp [V.nd.ndAll]
  | v :: vs, j => by
    cases j with
    | zero => simp [V.nd.ndAll]
    | succ j => simpa [V.nd.ndAll] using ndAll_get vs j
theorem ndAll_len : ∀ (vs : List V), (V.nd.ndAll vs).length = vs.length
  | [] => rfl
  | v :: vs => by simp [V.nd.ndAll, ndAll_len vs]
theorem vrel.nd {μ : Mu} {st : List Ob} {Q : Nat → Prop} {w : World} {v : V} {y : Value} (h : vrel μ st Q w v y) : vrel μ st Q w v.nd y := by
  induction h with
  | i h => exact .i h
  | undef y => exact .undef y
  | nils => exact .i (.sl0 _ _)
  | nilf => exact .nilf
  | ref h => exact .ref h
  | ptr h => exact .ptr h
  | iptr cs j g off xs hQ hw hr => exact .iptr cs j g off xs hQ hw hr
  | fn fn fs cs fs' cs' h1 h2 h3 h4 i3 i4 => exact .fn fn fs cs fs' cs' h1 h2 h3 h4
  | agg cs cs' h1 h2 ih =>
    refine .agg _ cs' (by rw [ndAll_len, h1]) (fun j v hj => ?_)
    rw [ndAll_get, Option.map_eq_some_iff] at hj
    obtain ⟨u, hu, rfl⟩ := hj
    exact ih j u hu
  | tup cs cs' h1 h2 ih =>
    refine .tup _ cs' (by rw [ndAll_len, h1]) (fun j v hj => ?_)
    rw [ndAll_get, Option.map_eq_some_iff] at hj
    obtain ⟨u, hu, rfl⟩ := hj
    exact ih j u hu
section
variable {P : Program} {G : Gl}
theorem CallW.nd {f : FuncId} {args args2 : List V} {st : List Ob} {K : V → List Ob → Prop} (h : CallW P G f args2 st K) (he : V.nd.ndAll args = args2) : CallW P G f args st K := by
  subst he
  refine ⟨h.enter, fun D μ w args' hg ha hs => h.calls D μ w args' hg ⟨by rw [ndAll_len]; exact ha.1, fun j v hj => ?_⟩ hs⟩
  rw [ndAll_get, Option.map_eq_some_iff] at hj
  obtain ⟨u, hu, rfl⟩ := hj
  exact (ha.2 j u hu).nd
end
end Go.Proofs.YtdbmfnhbgacldaaDoor.Am
