/- The logic: contracts of code that touches no store. -/
import Derived.Test.YtdbmfnhbgacldaaDoorAmT
namespace Go.Proofs.YtdbmfnhbgacldaaDoor.Am
set_option autoImplicit false
set_option linter.unusedVariables false
set_option linter.unusedSimpArgs false
mutual
theorem ren_cl0 (f : Nat → Nat) : ∀ v : V, V.cl 0 v = true → v.ren f = v
  | .i _, _ => rfl
  | .ref _ _ _ _, h => by simp [V.cl] at h
  | .ptr _ _ _ _, h => by simp [V.cl] at h
  | .iptr _ _, _ => rfl
  | .nilf, _ => rfl
  | .nils, _ => rfl
  | .undef, _ => rfl
  | .fn g a b, h => by
    simp only [V.cl, Bool.and_eq_true] at h
    simp only [V.ren, renAll_cl0 f a h.1, renAll_cl0 f b h.2]
  | .agg cs, h => by simp only [V.cl] at h; simp only [V.ren, renAll_cl0 f cs h]
  | .tup cs, h => by simp only [V.cl] at h; simp only [V.ren, renAll_cl0 f cs h]
theorem renAll_cl0 (f : Nat → Nat) : ∀ vs : List V, V.cl.clAll 0 vs = true → V.ren.renAll f vs = vs
  | [], _ => rfl
  | v :: vs, h => by
    simp only [V.cl.clAll, Bool.and_eq_true] at h
    simp only [V.ren.renAll, ren_cl0 f v h.1, renAll_cl0 f vs h.2]
end
section
variable {P : Program} {G : Gl}
/-- a contract without a store serves in each store -/
theorem CallW.pure {f : FuncId} {args : List V} {v : V} (big : List Ob) (h : CallW P G f args [] (fun r st' => r = v ∧ st' = [])) (hc : V.cl.clAll 0 args = true) (hv : V.cl 0 v = true) :
    CallW P G f args big (fun r st' => r = v ∧ st' = big) := by
  refine (CallW.rise (bargs := args) (big := big) [] [] h rfl List.nodup_nil (by simp) rfl (by simp) (by simp) rfl (fun j s u hs hu => ?_) (.inl rfl)).mono ?_
  · rw [hs] at hu; cases hu
    have := clAll_get hc j s hs
    exact .inl ⟨this, (ren_cl0 _ s this).symm⟩
  · rintro r st' ⟨r0, st0, ⟨rfl, rfl⟩, rfl, rfl⟩
    exact ⟨ren_cl0 _ _ hv, by simp [putAll]⟩
end
mutual
theorem cl_up (d : Nat → Nat) (k : Nat) : ∀ v : V, V.cl k (v.up d) = V.cl k v
  | .i _ => rfl
  | .ref _ _ _ _ => rfl
  | .ptr _ _ _ _ => rfl
  | .iptr _ _ => rfl
  | .nilf => rfl
  | .nils => rfl
  | .undef => rfl
  | .fn g a b => by simp only [V.up, V.cl, clAll_up d k a, clAll_up d k b]
  | .agg cs => by simp only [V.up, V.cl, clAll_up d k cs]
  | .tup cs => by simp only [V.up, V.cl, clAll_up d k cs]
theorem clAll_up (d : Nat → Nat) (k : Nat) : ∀ vs : List V, V.cl.clAll k (V.up.upAll d vs) = V.cl.clAll k vs
  | [] => rfl
  | v :: vs => by simp only [V.up.upAll, V.cl.clAll, cl_up d k v, clAll_up d k vs]
end
theorem ob_cl_up {d : Nat → Nat} {k id : Nat} {o : Ob} (h : o.cl k) : (o.up d id).cl k := by
  cases o with
  | dead => trivial
  | row ver sz ro es =>
    intro cs hcs
    simp only [List.mem_map] at hcs
    obtain ⟨c, hc, rfl⟩ := hcs
    rw [clAll_up]
    exact h c hc
theorem mem_up {d : Nat → Nat} : ∀ {st : List Ob} {k : Nat} {o : Ob}, o ∈ upSt d k st → ∃ o0 ∈ st, ∃ i, o = o0.up d i
  | [], k, o, h => by simp [upSt] at h
  | x :: xs, k, o, h => by
    simp only [upSt, List.mem_cons] at h
    rcases h with rfl | h
    · exact ⟨x, List.mem_cons_self, k, rfl⟩
    · obtain ⟨o0, h1, h2⟩ := mem_up h
      exact ⟨o0, List.mem_cons_of_mem _ h1, h2⟩
/-- slots are forgotten, rows at the end are, versions are told smaller -/
theorem Le.back {n : Nat} (d : Nat → Nat) {sl : List V} {st : List Ob} {s : S} (hd : ∀ id, id < n → d id = 0) (hn : n ≤ s.st.length) (hs : V.cl.clAll s.st.length s.sl = true) (ho : ∀ o ∈ s.st, o.cl s.st.length) (h1 : leS sl (s.sl.map (V.up d))) (h2 : st.take s.st.length = upSt d 0 s.st) : Le n ⟨sl, st⟩ s := by
  obtain ⟨rest, rfl⟩ : ∃ rest, st = upSt d 0 s.st ++ rest := ⟨st.drop s.st.length, by rw [← h2]; exact (List.take_append_drop _ _).symm⟩
  have e1 : ∀ vs, leS vs vs := fun vs => by induction vs with | nil => trivial | cons v vs ih => exact ⟨.inr rfl, ih⟩
  refine (Le.slots h1).trans ((Le.short (by simpa using hn) (by rw [upSt_len, ← upAll_eq, clAll_up]; exact hs) (fun o h => ?_)).trans (Le.down d hd (e1 _) rfl))
  obtain ⟨o0, h3, i, rfl⟩ := mem_up h
  rw [upSt_len]
  exact ob_cl_up (ho o0 h3)
end Go.Proofs.YtdbmfnhbgacldaaDoor.Am
