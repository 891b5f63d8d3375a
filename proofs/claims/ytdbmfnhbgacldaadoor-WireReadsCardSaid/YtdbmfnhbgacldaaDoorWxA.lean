/- Small laws for seats without the witness's texts. -/
import Derived.Test.YtdbmfnhbgacldaaDoorWwB
import Derived.Test.YtdbmfnhbgacldaaDoorAmX
namespace Go.Proofs.YtdbmfnhbgacldaaDoor.Am
set_option autoImplicit false
set_option linter.unusedVariables false
set_option linter.unusedSimpArgs false
theorem getD_enc {α : Type} {f : α → List I} {xs : List α} {i : Nat} {d : List I} (h : i < xs.length) : (xs.map f).getD i d = f xs[i] := by
  simp [List.getD_eq_getElem?_getD, h]
theorem args_ren {f : Nat → Nat} {n : Nat} {args : List V} (ha : V.cl.clAll n args = true) {F : List Nat} {big : List Ob} : ∀ (j : Nat) (s v : V), args[j]? = some s → (V.ren.renAll f args)[j]? = some v → (s.cl n = true ∧ v = s.ren f) ∨
    ∃ id ver off len sz ro is, v = .ref id ver off len ∧ id ∈ F ∧ big[id]? = some (.row ver sz ro (lift is)) ∧ s = .i (.sl ((is.drop off).take len)) := by
  intro j s v hs hv
  rw [renAll_get, hs] at hv
  simp only [Option.map_some, Option.some.injEq] at hv
  subst hv
  exact .inl ⟨clAll_get ha j s hs, rfl⟩
def puts (n : Nat) : List (List I) := (putN n).map by8
theorem one_puts (n : Nat) : one (puts n) := by
  intro cs hcs
  simp only [puts, List.mem_map] at hcs
  obtain ⟨n, _, rfl⟩ := hcs
  rfl
theorem one_app {a b : List (List I)} (h1 : one a) (h2 : one b) : one (a ++ b) := fun cs h => (List.mem_append.1 h).elim (h1 cs) (h2 cs)
theorem len_puts {n : Nat} (h : n < 4294967296) : (puts n).length ≤ 5 := by simpa [puts] using putN_len 4 n (by omega)
theorem puts_small {n : Nat} (h : n < 128) : puts n = [by8 n] := by rw [puts, putN, dif_pos h]; rfl
def isB (zs : List (List I)) : Prop := ∀ cs ∈ zs, ∃ n : Nat, cs = by8 n
theorem isB_ok {zs : List (List I)} (h : isB zs) : (∀ cs ∈ zs, cs.length = 1) ∧ ∀ cs ∈ lift zs, isByte cs := by
  refine ⟨fun cs hcs => ?_, fun cs hcs => ?_⟩
  · obtain ⟨n, rfl⟩ := h cs hcs; rfl
  · simp only [lift, List.mem_map] at hcs
    obtain ⟨x, hx, rfl⟩ := hcs
    obtain ⟨n, rfl⟩ := h x hx
    trivial
theorem isB_app {a b : List (List I)} (h1 : isB a) (h2 : isB b) : isB (a ++ b) := fun cs h => (List.mem_append.1 h).elim (h1 cs) (h2 cs)
theorem isB_map (ns : List Nat) : isB (ns.map by8) := fun cs h => by
  simp only [List.mem_map] at h
  obtain ⟨n, _, rfl⟩ := h
  exact ⟨n, rfl⟩
theorem apG {sz by_ len esl : Nat} {es : List (List I)} (hes : ∀ cs ∈ es, cs.length = sz) (b : Nat) (hb : by_ = b) (h1 : len = esl) (h2 : (len + es.length) * b ≤ 140737488355328) (h3 : len + es.length ≤ Go.maxLen) :
    (∀ cs ∈ es, cs.length = sz) ∧ len = esl ∧ (len + (lift es).length) * by_ ≤ 140737488355328 ∧ len + (lift es).length ≤ Go.maxLen := by
  subst hb
  have : (lift es).length = es.length := by simp [lift]
  rw [this]
  exact ⟨hes, h1, h2, h3⟩
end Go.Proofs.YtdbmfnhbgacldaaDoor.Am
