/- The row of alibi/alibilaw13.WitWrites: whatever the input, the call returns true and its argument reads afterwards as it read before. No condition. -/
import Derived.Test.YtdbmfnhbgacldaaRows
import Derived.Test.YtdbmfnhbgacldaaWwH
import Derived.WalkKit
import Derived.ProofKit
namespace Go.Proofs.Ytdbmfnhbgacldaa.witWrites
open Go.ChangeShapes Go.WideShapes Go.ChangeAt Go.RowKit Go.Proofs.Ytdbmfnhbgacldaa.Am
open Go.ChangeMaps (open_string shut_string)
set_option linter.unusedVariables false
theorem own : ownKnob Try.prog.godebug = none := by kernel_rfl
theorem laidOut : laidOutB Try.prog = true := by kernel_rfl
set_option maxRecDepth 100000 in
theorem reads63 : Am.Reads Try.prog 63 encP (fun _ => True) :=
  ((Am.Reads.struct Try.underlying63 (by kernel_rfl) (Am.ReadsF.cons (Am.Reads.int Try.underlying3) (Am.ReadsF.one (Am.Reads.bool Try.underlying4)))).map (fun x : Int × Bool => x) (fun x => rfl) (fun x _ => trivial))
set_option maxRecDepth 100000 in
theorem reads22 : Am.Reads Try.prog 22 (fun xs : List (Int × Bool) => [.sl (xs.map encP)]) (fun xs => xs.length ≤ maxLen) :=
  (Am.Reads.slice Try.underlying22 reads63 (of_decide_eq_true (by kernel_rfl))).map (fun x => x) (fun _ => rfl) (fun x h => h.1)
set_option maxRecDepth 100000 in
theorem reads24 : Am.Reads Try.prog 24 (fun x : List (Int × Bool) × Int × Int × Int => encW x.1 x.2.1 x.2.2.1 x.2.2.2) (fun x => x.1.length ≤ maxLen) :=
  (Am.Reads.struct Try.underlying24 (by kernel_rfl) (Am.ReadsF.cons reads22 (Am.ReadsF.cons (Am.Reads.int Try.underlying3) (Am.ReadsF.cons (Am.Reads.int Try.underlying3) (Am.ReadsF.one (Am.Reads.int Try.underlying3)))))).map (fun x => x) (fun x => rfl) (fun x h => h.1)
set_option maxRecDepth 100000 in
theorem lifted (os : Os) (started : os.Started) (H : Type) (enc : TypeId × Value → H) :
    ReturnsInHanded {} Try.checked os 3 .any (Rows.witWritesSpec.pre6 enc Try.prog Try.f3 Rows.witWritesRow.domain false) (Rows.witWritesSpec.post enc Try.prog Try.f3 false true false false) := by
  refine returnsInHanded_of_change_sized (C := Try.checked) own started (by kernel_rfl) Try.func3
    (ChangeSpec.witness6 (enc := enc) (C := Try.checked) false ⟨#[], #[.agg #[.slice none 0 0, .int .i64 0, .int .i64 0, .int .i64 0]], []⟩ 8 (by kernel_rfl) (by kernel_rfl) (by kernel_rfl) (by kernel_rfl)) ?_
  intro W base args ds gs before hval0 hW hcnd hsz0 _
  have hval : ∀ (j : Nat) t v, Try.f3.params[j]? = some t → args[j]? = some v → Value.okWide Try.prog W .any base t v := hval0
  have hW' := hW
  obtain ⟨p, q, hA0, hV, rfl, hfz, hnd⟩ := hW
  have hA : DataW.TrodAll enc Try.prog W 0 (fun _ => true) true Try.f3.params.toList args.toList ds p := hA0
  rw [Try.params3] at hA hval
  obtain ⟨v0, vs0, d0, ds0, p0, q0, hargs, rfl, rfl, h0, r0⟩ := trodAll_cons hA
  obtain ⟨rfl, rfl, rfl⟩ := trodAll_nil r0
  obtain rfl : args = #[v0] := by cases args; simp_all
  obtain ⟨rfl, rfl⟩ := trodVars_none hV
  have k0 := h0
  have lt0 : ∀ x ∈ p0, x.block < W.heap.size := by obtain ⟨m, hm⟩ := k0; exact DataW.trod_lt m _ _ _ hm
  obtain ⟨s0, a0, w0⟩ := Am.Reads.agg Try.underlying24 reads24 (hval 0 24 v0 rfl rfl) h0
  clear hA0 hval0 hsz0
  refine ((law3 s0.1 s0.2.1 s0.2.2.1 s0.2.2.2 w0).said (fun r st' h => h.1) (fun g cs h => nomatch h) (Am.vrels_of (ys := [v0]) rfl (fun j v y hv hy => ?_))).mono ?_
  · match j, hv, hy with
    | 0, hv, hy => simp at hv hy; subst hv hy; exact a0
  rintro e W' ⟨rfl, hd⟩
  have bel : Below W.heap.size W W' := hd
  exact ⟨_, rfl, _, _, _, [], _, [], hW', trodAll_mk1 (shut_bool Try.underlying4 _), (trodAll_cons_mk (Below.trod laidOut (by kernel_rfl) (of_decide_eq_true (by kernel_rfl)) k0 bel lt0) trodAll_mk0), rfl, bel.frame _, fun h => by cases h⟩
theorem over : Rows.witWritesRow.holds Try.pinned (OpenSpec.ofChange Rows.witWritesSpec) :=
  OpenClaim.holds_of_wide 3 Try.f3 rfl rfl rfl rfl rfl rfl rfl ⟨rfl, rfl, rfl, rfl, rfl⟩ rfl rfl rfl rfl rfl (by kernel_rfl) Try.func3 (by kernel_rfl)
    (of_decide_eq_true (by kernel_rfl)) (by unfold Func.isWrapper; first | (rw [if_pos (by decide +kernel)]; kernel_rfl) | (rw [if_neg (by decide +kernel)]; exact ⟨rfl, rfl⟩))
    (fun os started H enc _ => lifted os started H enc)
theorem proved : Rows.WitWritesSaid := over
#print axioms proved
end Go.Proofs.Ytdbmfnhbgacldaa.witWrites
namespace Go.Proofs.Ytdbmfnhbgacldaa
/-- The row, under a short name, for the claim. -/
theorem witWrites_holds : Rows.WitWritesSaid := witWrites.proved
end Go.Proofs.Ytdbmfnhbgacldaa
