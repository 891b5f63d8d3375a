/- The row of alibi/alibilaw07.PcodeReads: whatever the input, the call returns true and its arguments read afterwards as they read before. No condition. -/
import Derived.Test.YtdbmfnhbgacldaaRows
import Derived.Test.YtdbmfnhbgacldaaQcX
import Derived.Test.YtdbmfnhbgacldaaAmRd
import Derived.WalkKit
import Derived.ProofKit

namespace Go.Proofs.Ytdbmfnhbgacldaa.pcodeReads
open Go.ChangeShapes Go.WideShapes Go.ChangeAt Go.RowKit Go.Proofs.Ytdbmfnhbgacldaa.Am
open Go.ChangeMaps (open_string shut_string)
set_option linter.unusedVariables false
theorem own : ownKnob Try.prog.godebug = none := by kernel_rfl
theorem laidOut : laidOutB Try.prog = true := by kernel_rfl
set_option maxRecDepth 100000 in
theorem reads5 : Am.Reads Try.prog 5 (fun x : Nat => [I.int .u8 (x : Int)]) (fun x => x < 256) :=
  (Am.Reads.int Try.underlying5).mapQ Int.toNat (fun n h => congrArg (fun z => [I.int .u8 z]) (Int.toNat_of_nonneg (nat_wf_u8 h).1)) (fun n h => (nat_wf_u8 h).2)
set_option maxRecDepth 100000 in
theorem reads26 : Am.Reads Try.prog 26 (fun x : (List Nat) => [I.sl (x.map fun y0 : Nat => [I.int .u8 (y0 : Int)])]) (fun x => (x.length ≤ maxLen ∧ ∀ y1 ∈ x, y1 < 256)) :=
  (Am.Reads.slice Try.underlying26 reads5 (of_decide_eq_true (by kernel_rfl))).map (fun x => x) (fun _ => rfl) (fun x h => h)
set_option maxRecDepth 100000 in
theorem lifted (os : Os) (started : os.Started) (H : Type) (enc : TypeId × Value → H) :
    ReturnsInHanded {} Try.checked os 7 .any (Rows.pcodeReadsSpec.pre6 enc Try.prog Try.f7 Rows.pcodeReadsRow.domain false) (Rows.pcodeReadsSpec.post enc Try.prog Try.f7 false true false false) := by
  refine returnsInHanded_of_change_sized (C := Try.checked) own started (by kernel_rfl) Try.func7
    (ChangeSpec.witness6 (enc := enc) (C := Try.checked) false ⟨#[], #[.slice none 0 0], []⟩ 8 (by kernel_rfl) (by kernel_rfl) (by kernel_rfl) (by kernel_rfl)) ?_
  intro W base args ds gs before hval0 hW hcnd hsz0 _
  have hval : ∀ (j : Nat) t v, Try.f7.params[j]? = some t → args[j]? = some v → Value.okWide Try.prog W .any base t v := hval0
  have hW' := hW
  obtain ⟨p, q, hA0, hV, rfl, hfz, hnd⟩ := hW
  have hA : DataW.TrodAll enc Try.prog W 0 (fun _ => true) true Try.f7.params.toList args.toList ds p := hA0
  rw [Try.params7] at hA hval
  obtain ⟨v0, vs0, d0, ds0, p0, q0, hargs, rfl, rfl, h0, r0⟩ := trodAll_cons hA
  obtain ⟨rfl, rfl, rfl⟩ := trodAll_nil r0
  obtain rfl : args = #[v0] := by cases args; simp_all
  obtain ⟨rfl, rfl⟩ := trodVars_none hV
  have k0 := h0
  have lt0 : ∀ x ∈ p0, x.block < W.heap.size := by obtain ⟨m, hm⟩ := k0; exact DataW.trod_lt m _ _ _ hm
  obtain ⟨_, _, _, e0⟩ := okWide_slice Try.underlying26 (hval 0 26 v0 rfl rfl)
  obtain ⟨s0, a0, w0⟩ := Am.Reads.one reads26 (by rw [e0]; rfl) h0
  clear hA0 hval0 hsz0
  refine ((pcodereads s0 (Nat.le_trans w0.1 (by decide)) w0.2).said (fun r st' h => h.1) (fun g cs h => nomatch h) (Am.vrels_of (ys := [v0]) rfl (fun j v y hv hy => ?_))).mono ?_
  · match j, hv, hy with
    | 0, hv, hy => simp at hv hy; subst hv hy; exact a0
  rintro e W' ⟨rfl, hd⟩
  have bel : Below W.heap.size W W' := hd
  exact ⟨_, rfl, _, _, _, [], _, [], hW', trodAll_mk1 (shut_bool Try.underlying4 _), (trodAll_cons_mk (Below.trod laidOut (by kernel_rfl) (of_decide_eq_true (by kernel_rfl)) k0 bel lt0) trodAll_mk0), rfl, bel.frame _, fun h => by cases h⟩
theorem over : Rows.pcodeReadsRow.holds Try.pinned (OpenSpec.ofChange Rows.pcodeReadsSpec) :=
  OpenClaim.holds_of_wide 7 Try.f7 rfl rfl rfl rfl rfl rfl rfl ⟨rfl, rfl, rfl, rfl, rfl⟩ rfl rfl rfl rfl rfl (by kernel_rfl) Try.func7 (by kernel_rfl)
    (of_decide_eq_true (by kernel_rfl)) (by unfold Func.isWrapper; first | (rw [if_pos (by decide +kernel)]; kernel_rfl) | (rw [if_neg (by decide +kernel)]; exact ⟨rfl, rfl⟩))
    (fun os started H enc _ => lifted os started H enc)
theorem proved : Rows.PcodeReadsSaid := over
#print axioms proved
end Go.Proofs.Ytdbmfnhbgacldaa.pcodeReads
namespace Go.Proofs.Ytdbmfnhbgacldaa
/-- The row, under a short name, for the claim. -/
theorem pcodeReads_holds : Rows.PcodeReadsSaid := pcodeReads.proved
end Go.Proofs.Ytdbmfnhbgacldaa
