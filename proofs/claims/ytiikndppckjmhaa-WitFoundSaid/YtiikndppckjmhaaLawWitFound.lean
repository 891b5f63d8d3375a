/- The row of alibi/alibilaw13.WitFound: whatever the input, the call returns true and its arguments read afterwards as they read before. No condition. -/
import Derived.Test.YtiikndppckjmhaaRows
import Derived.Test.YtiikndppckjmhaaBdWitFound39
import Derived.Test.YtiikndppckjmhaaAmRd
import Derived.WalkKit
import Derived.ProofKit

namespace Go.Proofs.Ytiikndppckjmhaa.witFound
open Go.ChangeShapes Go.WideShapes Go.ChangeAt Go.RowKit Go.Proofs.Ytiikndppckjmhaa.Am
open Go.ChangeMaps (open_string shut_string)
set_option linter.unusedVariables false
theorem own : ownKnob Try.prog.godebug = none := by kernel_rfl
theorem laidOut : laidOutB Try.prog = true := by kernel_rfl
set_option maxRecDepth 100000 in
theorem reads3 : Am.Reads Try.prog 3 (fun x : Int => [I.int .i64 x]) (fun x => (Lit.int .i64 x).wf = true) :=
  Am.Reads.int Try.underlying3
set_option maxRecDepth 100000 in
theorem reads47 : Am.Reads Try.prog 47 (fun x : (Int × Int × Int × Int) => [I.int .i64 x.1, I.int .i64 x.2.1, I.int .i64 x.2.2.1, I.int .i64 x.2.2.2]) (fun x => ((Lit.int .i64 x.1).wf = true ∧ (Lit.int .i64 x.2.1).wf = true ∧ (Lit.int .i64 x.2.2.1).wf = true ∧ (Lit.int .i64 x.2.2.2).wf = true)) :=
  (Am.Reads.struct Try.underlying47 (by kernel_rfl) (Am.ReadsF.cons reads3 (Am.ReadsF.cons reads3 (Am.ReadsF.cons reads3 (Am.ReadsF.one reads3))))).map (fun x => x) (fun x => rfl) (fun x h => h)
set_option maxRecDepth 100000 in
theorem reads65 : Am.Reads Try.prog 65 (fun x : (List (Int × Int × Int × Int)) => [I.sl (x.map fun y0 : (Int × Int × Int × Int) => [I.int .i64 y0.1, I.int .i64 y0.2.1, I.int .i64 y0.2.2.1, I.int .i64 y0.2.2.2])]) (fun x => (x.length ≤ maxLen ∧ ∀ y1 ∈ x, ((Lit.int .i64 y1.1).wf = true ∧ (Lit.int .i64 y1.2.1).wf = true ∧ (Lit.int .i64 y1.2.2.1).wf = true ∧ (Lit.int .i64 y1.2.2.2).wf = true))) :=
  (Am.Reads.slice Try.underlying65 reads47 (of_decide_eq_true (by kernel_rfl))).map (fun x => x) (fun _ => rfl) (fun x h => h)
set_option maxRecDepth 100000 in
theorem reads22 : Am.Reads Try.prog 22 (fun x : (List (List (Int × Int × Int × Int))) => [I.sl (x.map fun y0 : (List (Int × Int × Int × Int)) => [I.sl (y0.map fun y1 : (Int × Int × Int × Int) => [I.int .i64 y1.1, I.int .i64 y1.2.1, I.int .i64 y1.2.2.1, I.int .i64 y1.2.2.2])])]) (fun x => (x.length ≤ maxLen ∧ ∀ y1 ∈ x, (y1.length ≤ maxLen ∧ ∀ y2 ∈ y1, ((Lit.int .i64 y2.1).wf = true ∧ (Lit.int .i64 y2.2.1).wf = true ∧ (Lit.int .i64 y2.2.2.1).wf = true ∧ (Lit.int .i64 y2.2.2.2).wf = true)))) :=
  (Am.Reads.slice Try.underlying22 reads65 (of_decide_eq_true (by kernel_rfl))).map (fun x => x) (fun _ => rfl) (fun x h => h)
set_option maxRecDepth 100000 in
theorem reads24 : Am.Reads Try.prog 24 (fun x : (Int × Int × Int × (List (List (Int × Int × Int × Int)))) => [I.int .i64 x.1, I.int .i64 x.2.1, I.int .i64 x.2.2.1, I.sl (x.2.2.2.map fun y0 : (List (Int × Int × Int × Int)) => [I.sl (y0.map fun y1 : (Int × Int × Int × Int) => [I.int .i64 y1.1, I.int .i64 y1.2.1, I.int .i64 y1.2.2.1, I.int .i64 y1.2.2.2])])]) (fun x => ((Lit.int .i64 x.1).wf = true ∧ (Lit.int .i64 x.2.1).wf = true ∧ (Lit.int .i64 x.2.2.1).wf = true ∧ (x.2.2.2.length ≤ maxLen ∧ ∀ y7 ∈ x.2.2.2, (y7.length ≤ maxLen ∧ ∀ y2 ∈ y7, ((Lit.int .i64 y2.1).wf = true ∧ (Lit.int .i64 y2.2.1).wf = true ∧ (Lit.int .i64 y2.2.2.1).wf = true ∧ (Lit.int .i64 y2.2.2.2).wf = true))))) :=
  (Am.Reads.struct Try.underlying24 (by kernel_rfl) (Am.ReadsF.cons reads3 (Am.ReadsF.cons reads3 (Am.ReadsF.cons reads3 (Am.ReadsF.one reads22))))).map (fun x => x) (fun x => rfl) (fun x h => h)
set_option maxRecDepth 100000 in
theorem reads107 : Am.Reads Try.prog 107 (fun x : Nat => [I.int .u16 (x : Int)]) (fun x => x < 65536) :=
  (Am.Reads.int Try.underlying107).mapQ Int.toNat (fun n h => congrArg (fun z => [I.int .u16 z]) (Int.toNat_of_nonneg (nat_wf_u16 h).1)) (fun n h => (nat_wf_u16 h).2)
set_option maxRecDepth 100000 in
theorem lifted (os : Os) (started : os.Started) (H : Type) (enc : TypeId × Value → H) :
    ReturnsInHanded {} Try.checked os 24 .any (Rows.witFoundSpec.pre6 enc Try.prog Try.f24 Rows.witFoundRow.domain false) (Rows.witFoundSpec.post enc Try.prog Try.f24 false true false false) := by
  refine returnsInHanded_of_change_sized (C := Try.checked) own started (by kernel_rfl) Try.func24
    (ChangeSpec.witness6 (enc := enc) (C := Try.checked) false ⟨#[], #[.agg #[.int .i64 0, .int .i64 0, .int .i64 0, .slice none 0 0], .int .u16 0], []⟩ 8 (by kernel_rfl) (by kernel_rfl) (by kernel_rfl) (by kernel_rfl)) ?_
  intro W base args ds gs before hval0 hW hcnd hsz0 _
  have hval : ∀ (j : Nat) t v, Try.f24.params[j]? = some t → args[j]? = some v → Value.okWide Try.prog W .any base t v := hval0
  have hW' := hW
  obtain ⟨p, q, hA0, hV, rfl, hfz, hnd⟩ := hW
  have hA : DataW.TrodAll enc Try.prog W 0 (fun _ => true) true Try.f24.params.toList args.toList ds p := hA0
  rw [Try.params24] at hA hval
  obtain ⟨v0, vs0, d0, ds0, p0, q0, hargs, rfl, rfl, h0, r0⟩ := trodAll_cons hA
  obtain ⟨v1, vs1, d1, ds1, p1, q1, rfl, rfl, rfl, h1, r1⟩ := trodAll_cons r0
  obtain ⟨rfl, rfl, rfl⟩ := trodAll_nil r1
  obtain rfl : args = #[v0, v1] := by cases args; simp_all
  obtain ⟨rfl, rfl⟩ := trodVars_none hV
  have k0 := h0
  have lt0 : ∀ x ∈ p0, x.block < W.heap.size := by obtain ⟨m, hm⟩ := k0; exact DataW.trod_lt m _ _ _ hm
  obtain ⟨s0, a0, w0⟩ := Am.Reads.agg Try.underlying24 reads24 (hval 0 24 v0 rfl rfl) h0
  have k1 := h1
  have lt1 : ∀ x ∈ p1, x.block < W.heap.size := by obtain ⟨m, hm⟩ := k1; exact DataW.trod_lt m _ _ _ hm
  obtain ⟨_, e1⟩ := okWide_int Try.underlying107 (hval 1 107 v1 rfl rfl)
  obtain ⟨s1, a1, w1⟩ := Am.Reads.one reads107 (by rw [e1]; rfl) h1
  clear hA0 hval0 hsz0
  refine ((witfound ⟨s0.1, s0.2.1, s0.2.2.1, s0.2.2.2⟩ ⟨Nat.le_trans w0.2.2.2.1 (by decide), fun f hf => Nat.le_trans (w0.2.2.2.2 f hf).1 (by decide)⟩ s1 w1).said (fun r st' h => h.1) (fun g cs h => nomatch h) (Am.vrels_of (ys := [v0, v1]) rfl (fun j v y hv hy => ?_))).mono ?_
  · match j, hv, hy with
    | 0, hv, hy => simp at hv hy; subst hv hy; exact a0
    | 1, hv, hy => simp at hv hy; subst hv hy; exact a1
  rintro e W' ⟨rfl, hd⟩
  have bel : Below W.heap.size W W' := hd
  exact ⟨_, rfl, _, _, _, [], _, [], hW', trodAll_mk1 (shut_bool Try.underlying4 _), (trodAll_cons_mk (Below.trod laidOut (by kernel_rfl) (of_decide_eq_true (by kernel_rfl)) k0 bel lt0) (trodAll_cons_mk (Below.trod laidOut (by kernel_rfl) (of_decide_eq_true (by kernel_rfl)) k1 bel lt1) trodAll_mk0)), rfl, bel.frame _, fun h => by cases h⟩
theorem over : Rows.witFoundRow.holds Try.pinned (OpenSpec.ofChange Rows.witFoundSpec) :=
  OpenClaim.holds_of_wide 24 Try.f24 rfl rfl rfl rfl rfl rfl rfl ⟨rfl, rfl, rfl, rfl, rfl⟩ rfl rfl rfl rfl rfl (by kernel_rfl) Try.func24 (by kernel_rfl)
    (of_decide_eq_true (by kernel_rfl)) (by unfold Func.isWrapper; first | (rw [if_pos (by decide +kernel)]; kernel_rfl) | (rw [if_neg (by decide +kernel)]; exact ⟨rfl, rfl⟩))
    (fun os started H enc _ => lifted os started H enc)
theorem proved : Rows.WitFoundSaid := over
#print axioms proved
end Go.Proofs.Ytiikndppckjmhaa.witFound
namespace Go.Proofs.Ytiikndppckjmhaa
/-- The row, under a short name, for the claim. -/
theorem witFound_holds : Rows.WitFoundSaid := witFound.proved
end Go.Proofs.Ytiikndppckjmhaa
