/- The logic: a contract over data, used for a row of the caller's own. -/
import Derived.Test.YtdbmfnhbgacldaaDoorAmX
import Derived.Test.YtdbmfnhbgacldaaDoorAmZ
namespace Go.Proofs.YtdbmfnhbgacldaaDoor.Am
set_option autoImplicit false
section
variable {P : Program} {G : Gl}
theorem CallW.ref1 {f : FuncId} {id ver sz : Nat} {ro : Bool} {len : Nat} {is : List (List I)} {v : V} (big : List Ob) (h : CallW P G f [.i (.sl is)] [] (fun r st' => r = v ∧ st' = [])) (hid : big[id]? = some (.row ver sz ro (lift is))) (hlen : len = is.length) (hv : V.cl 0 v = true) (hsf : v.sf = true) :
    CallW P G f [.ref id ver 0 len] big (fun r st' => r = v ∧ st' = big) := by
  refine (CallW.rise (bargs := [.ref id ver 0 len]) (big := big) [] [id] h rfl List.nodup_nil (by simp) rfl (by simp) (by simp) rfl (fun j s u hs hu => ?_) (.inr (by rintro r st' ⟨rfl, rfl⟩; exact ⟨hsf, by simp⟩))).mono ?_
  · cases j with
    | zero =>
      simp only [List.getElem?_cons_zero, Option.some.injEq] at hs hu
      subst hs hu
      exact .inr ⟨id, ver, 0, len, sz, ro, is, rfl, by simp, hid, by rw [List.drop_zero, List.take_of_length_le (by omega)]⟩
    | succ j => simp at hs
  · rintro r st' ⟨r0, st0, ⟨rfl, rfl⟩, rfl, rfl⟩
    exact ⟨ren_cl0 _ _ hv, by simp [putAll]⟩
/-- a contract over a state that says less -/
theorem CallW.le {f : FuncId} {args args2 : List V} {st st2 : List Ob} {K : V → List Ob → Prop} (hl : Le st.length ⟨args, st⟩ ⟨args2, st2⟩) (hn : st.length ≤ st2.length) (h : CallW P G f args2 st2 K) : CallW P G f args st K := by
  refine ⟨h.enter, fun D μ w args' hg ha hs => ?_⟩
  obtain ⟨μ1, r1, f1, e1⟩ := hl D μ ⟨args', []⟩ w (Nat.le_refl _) ⟨rfl, ha, hs⟩
  refine (h.calls D μ1 w args' (hg.keep f1) r1.sl r1.st).mono ?_
  rintro e w' ⟨r, r', st', μ', h1, h2, h3, h4, h5, h6⟩
  exact ⟨r, r', st', μ', h1, h2, h3, h4, f1.trans h5, e1.trans (h6.mono hn)⟩
end
/-- loops of a code, outer ones first: for contracts told loop by loop -/
def loops : Code → List Code
  | .seq a b => loops a ++ loops b
  | .cond _ a b => loops a ++ loops b
  | .block _ c => loops c
  | .scope c => loops c
  | .loop c => c :: loops c
  | _ => []
def lp (f : Func) (k : Nat) : Code := match f.body with | some c => (loops c).getD k .skip | none => .skip
end Go.Proofs.YtdbmfnhbgacldaaDoor.Am
