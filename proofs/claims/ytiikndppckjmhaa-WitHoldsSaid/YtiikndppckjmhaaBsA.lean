/- Small laws for seats without the wire's texts. -/
import Derived.Test.YtiikndppckjmhaaAmU
import Derived.Test.YtiikndppckjmhaaAmX
import Derived.Test.YtiikndppckjmhaaAmZ
import Derived.Test.YtiikndppckjmhaaProg
namespace Go.Proofs.Ytiikndppckjmhaa.Am
set_option autoImplicit false
set_option linter.unusedVariables false
set_option linter.unusedSimpArgs false
def G0 : Gl := fun _ => none
def own0 : Tmp → Bool := fun _ => false
def mkS (n : Nat) (l : List (Nat × V)) : List V := l.foldl (fun s x => s.set x.1 x.2) (List.replicate n .undef)
theorem i64_id {n : Int} (h1 : -9223372036854775808 ≤ n) (h2 : n ≤ 9223372036854775807) : IntKind.i64.wrap n = n := by
  unfold IntKind.wrap; simp [IntKind.signed, IntKind.bits]; omega
theorem lift_app (a b : List (List I)) : lift (a ++ b) = lift a ++ lift b := by simp [lift]
theorem len_mx {n : Nat} (h : n ≤ 140737488355328) : n ≤ Go.maxLen := by simp [Go.maxLen]; omega
theorem u64_small {n : Nat} (h : n < 18446744073709551616) : IntKind.u64.wrap (n : Int) = n := by
  simp [IntKind.wrap, IntKind.signed, IntKind.bits]; omega
theorem u32_small {n : Nat} (h : n < 4294967296) : IntKind.u32.wrap (n : Int) = n := by
  simp [IntKind.wrap, IntKind.signed, IntKind.bits]; omega
theorem getD_enc {α : Type} {f : α → List I} {xs : List α} {i : Nat} {d : List I} (h : i < xs.length) : (xs.map f).getD i d = f xs[i] := by
  simp [List.getD_eq_getElem?_getD, h]
theorem args_ren {f : Nat → Nat} {n : Nat} {args : List V} (ha : V.cl.clAll n args = true) {F : List Nat} {big : List Ob} : ∀ (j : Nat) (s v : V), args[j]? = some s → (V.ren.renAll f args)[j]? = some v → (s.cl n = true ∧ v = s.ren f) ∨
    ∃ id ver off len sz ro is, v = .ref id ver off len ∧ id ∈ F ∧ big[id]? = some (.row ver sz ro (lift is)) ∧ s = .i (.sl ((is.drop off).take len)) := by
  intro j s v hs hv
  rw [renAll_get, hs] at hv
  simp only [Option.map_some, Option.some.injEq] at hv
  subst hv
  exact .inl ⟨clAll_get ha j s hs, rfl⟩
theorem fin {m : Nat} {st target : List Ob} {r r0 : V} (h : st.take m = target) (hl : m ≤ st.length) (hc : ∀ o ∈ target, o.cl m) (hr0 : r = r0) (hr : r.cl m = true) : m ≤ st.length ∧ r.cl m = true ∧ (∀ o ∈ st.take m, o.cl m) ∧ (r = r0 ∧ st.take m = target) := by
  subst h
  exact ⟨hl, hr, hc, hr0, rfl⟩
end Go.Proofs.Ytiikndppckjmhaa.Am
