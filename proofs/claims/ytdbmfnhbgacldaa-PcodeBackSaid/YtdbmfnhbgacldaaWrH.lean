/- Contracts: a reader somewhere in a greater store. -/
import Derived.Test.YtdbmfnhbgacldaaWrG
namespace Go.Proofs.Ytdbmfnhbgacldaa.Am
set_option autoImplicit false
set_option linter.unusedVariables false
set_option linter.unusedSimpArgs false
set_option maxRecDepth 10000
theorem rdB_ren (f : Nat → Nat) (s : Rd) : (rdB s).ren f = rdB s := rfl
theorem atR {f : FuncId} {args : List V} {v : V} {s s' : Rd} (pre post : List Ob) (h : CallW Try.prog G0 f args [rdB s] (fun r st' => r = v ∧ st' = [rdB s'])) (ha : V.cl.clAll 1 args = true) (hv : V.cl 0 v = true) :
    CallW Try.prog G0 f (V.ren.renAll (fm [pre.length] (pre ++ rdB s :: post).length) args) (pre ++ rdB s :: post) (fun r st' => r = v ∧ st' = pre ++ rdB s' :: post) := by
  refine (CallW.rise (bargs := V.ren.renAll (fm [pre.length] (pre ++ rdB s :: post).length) args) (big := pre ++ rdB s :: post) [pre.length] [] h rfl (by simp) (by simp) ?_ (rdB_cl s) (by simp) (renAll_len _ _) (args_ren ha) (.inl rfl)).mono ?_
  · simp only [List.map_cons, List.map_nil, rdB_ren]
    simp [List.getD_eq_getElem?_getD]
  · rintro r st' ⟨r0, s0, ⟨rfl, rfl⟩, rfl, rfl⟩
    refine ⟨ren_cl0 _ _ hv, ?_⟩
    simp only [List.map_cons, List.map_nil, rdB_ren, putAll]
    simp
/-- a contract that makes rows of its own -/
theorem CallW.fresh {f : FuncId} {args : List V} {v : V} {rows : List Ob} (big : List Ob) (h : CallW Try.prog G0 f args [] (fun r st' => r = v ∧ st' = rows)) (ha : V.cl.clAll 0 args = true) :
    CallW Try.prog G0 f args big (fun r st' => r = v.ren (fun i => big.length + i) ∧ st' = big ++ rows.map (Ob.ren fun i => big.length + i)) := by
  have := h.under big (by simp) ha
  rw [renAll_cl0 _ _ ha] at this
  simp only [List.map_nil, List.append_nil] at this
  refine this.mono ?_
  rintro r st' ⟨r0, s0, ⟨rfl, rfl⟩, _, rfl, rfl⟩
  exact ⟨rfl, rfl⟩
end Go.Proofs.Ytdbmfnhbgacldaa.Am
