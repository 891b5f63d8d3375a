/- The row of alibi/alibilaw07.PcodeWrites: whatever the input, the call returns true and its arguments read afterwards as they read before. No condition. -/
import Derived.Test.YtdbmfnhbgacldaaDoorRows
import Derived.Test.YtdbmfnhbgacldaaDoorBdPcodeWrites33
import Derived.Test.YtdbmfnhbgacldaaDoorAmRd
import Derived.WalkKit
import Derived.ProofKit
import Derived.Test.YtdbmfnhbgacldaaDoorTie
import Derived.Test.YtdbmfnhbgacldaaDoorCards
import Derived.LaidMore
import Derived.SevenTiedAt
import Derived.Stop.Joined
namespace Go.Proofs.YtdbmfnhbgacldaaDoor.pcodeWrites
open Go.ChangeShapes Go.WideShapes Go.ChangeAt Go.RowKit Go.Proofs.YtdbmfnhbgacldaaDoor.Am
open Go.ChangeMaps (open_string shut_string)
set_option linter.unusedVariables false
theorem own : ownKnob Tryd.prog.godebug = none := by kernel_rfl
theorem laidOut : laidOutB Tryd.prog = true := by kernel_rfl
set_option maxRecDepth 100000 in
theorem reads3 : Am.Reads Tryd.prog 3 (fun x : Int => [I.int .i64 x]) (fun x => (Lit.int .i64 x).wf = true) :=
  Am.Reads.int Tryd.underlying3
set_option maxRecDepth 100000 in
theorem reads95 : Am.Reads Tryd.prog 95 (fun x : (Int × Int × Int × Int) => [I.int .i64 x.1, I.int .i64 x.2.1, I.int .i64 x.2.2.1, I.int .i64 x.2.2.2]) (fun x => ((Lit.int .i64 x.1).wf = true ∧ (Lit.int .i64 x.2.1).wf = true ∧ (Lit.int .i64 x.2.2.1).wf = true ∧ (Lit.int .i64 x.2.2.2).wf = true)) :=
  (Am.Reads.struct Tryd.underlying95 (by kernel_rfl) (Am.ReadsF.cons reads3 (Am.ReadsF.cons reads3 (Am.ReadsF.cons reads3 (Am.ReadsF.one reads3))))).map (fun x => x) (fun x => rfl) (fun x h => h)
set_option maxRecDepth 100000 in
theorem reads96 : Am.Reads Tryd.prog 96 (fun x : (List (Int × Int × Int × Int)) => [I.sl (x.map fun y0 : (Int × Int × Int × Int) => [I.int .i64 y0.1, I.int .i64 y0.2.1, I.int .i64 y0.2.2.1, I.int .i64 y0.2.2.2])]) (fun x => (x.length ≤ maxLen ∧ ∀ y1 ∈ x, ((Lit.int .i64 y1.1).wf = true ∧ (Lit.int .i64 y1.2.1).wf = true ∧ (Lit.int .i64 y1.2.2.1).wf = true ∧ (Lit.int .i64 y1.2.2.2).wf = true))) :=
  (Am.Reads.slice Tryd.underlying96 reads95 (of_decide_eq_true (by kernel_rfl))).map (fun x => x) (fun _ => rfl) (fun x h => h)
set_option maxRecDepth 100000 in
theorem reads54 : Am.Reads Tryd.prog 54 (fun x : (List (List (Int × Int × Int × Int))) => [I.sl (x.map fun y0 : (List (Int × Int × Int × Int)) => [I.sl (y0.map fun y1 : (Int × Int × Int × Int) => [I.int .i64 y1.1, I.int .i64 y1.2.1, I.int .i64 y1.2.2.1, I.int .i64 y1.2.2.2])])]) (fun x => (x.length ≤ maxLen ∧ ∀ y1 ∈ x, (y1.length ≤ maxLen ∧ ∀ y2 ∈ y1, ((Lit.int .i64 y2.1).wf = true ∧ (Lit.int .i64 y2.2.1).wf = true ∧ (Lit.int .i64 y2.2.2.1).wf = true ∧ (Lit.int .i64 y2.2.2.2).wf = true)))) :=
  (Am.Reads.slice Tryd.underlying54 reads96 (of_decide_eq_true (by kernel_rfl))).map (fun x => x) (fun _ => rfl) (fun x h => h)
set_option maxRecDepth 100000 in
theorem reads56 : Am.Reads Tryd.prog 56 (fun x : (Int × Int × Int × (List (List (Int × Int × Int × Int)))) => [I.int .i64 x.1, I.int .i64 x.2.1, I.int .i64 x.2.2.1, I.sl (x.2.2.2.map fun y0 : (List (Int × Int × Int × Int)) => [I.sl (y0.map fun y1 : (Int × Int × Int × Int) => [I.int .i64 y1.1, I.int .i64 y1.2.1, I.int .i64 y1.2.2.1, I.int .i64 y1.2.2.2])])]) (fun x => ((Lit.int .i64 x.1).wf = true ∧ (Lit.int .i64 x.2.1).wf = true ∧ (Lit.int .i64 x.2.2.1).wf = true ∧ (x.2.2.2.length ≤ maxLen ∧ ∀ y7 ∈ x.2.2.2, (y7.length ≤ maxLen ∧ ∀ y2 ∈ y7, ((Lit.int .i64 y2.1).wf = true ∧ (Lit.int .i64 y2.2.1).wf = true ∧ (Lit.int .i64 y2.2.2.1).wf = true ∧ (Lit.int .i64 y2.2.2.2).wf = true))))) :=
  (Am.Reads.struct Tryd.underlying56 (by kernel_rfl) (Am.ReadsF.cons reads3 (Am.ReadsF.cons reads3 (Am.ReadsF.cons reads3 (Am.ReadsF.one reads54))))).map (fun x => x) (fun x => rfl) (fun x h => h)
theorem door_met (os : Os) (args : Array Value) : laidMetH Tryd.prog Rows.pcodeWritesRow.laid ((World.doorLaid Tryd.prog 400 os).forCall (fun _ _ => 0) ⟨#[], args, []⟩).memory :=
  laidMetH_of_parts3 (fuel := 8) (laidMet_of_run' 8 (by kernel_rfl) (by kernel_rfl)) (by kernel_rfl) (by kernel_rfl)
theorem tab_of_laid {W : World} (h : laidMetH Tryd.prog Rows.pcodeWritesRow.laid W) : KeysOk W := by
  rw [MakeChecks.laidMetH_plain _ _ _ (by kernel_rfl)] at h
  exact keys_ok h
set_option maxRecDepth 100000 in
theorem lifted (os : Os) (started : os.Started) (H : Type) (enc : TypeId × Value → H) :
    ReturnsInHanded {} Tryd.checked os 7 .any (fun w args => (Rows.pcodeWritesSpec.pre enc Tryd.prog Tryd.f7 [] false w args ∧ laidMetH Tryd.prog Rows.pcodeWritesRow.laid w) ∧ sizedMet enc Tryd.prog Tryd.f7 (OpenSpec.ofChange Rows.pcodeWritesSpec) false w args) (Rows.pcodeWritesSpec.post enc Tryd.prog Tryd.f7 false true false false) := by
  refine returnsInHanded_of_change_and (C := Tryd.checked) (X := fun w _ => laidMetH Tryd.prog Rows.pcodeWritesRow.laid w) (fun _ _ _ hh h => h.of_heap hh) own started (by kernel_rfl) Tryd.func7
    (ChangeSpec.witness_shaped (enc := enc) (C := Tryd.checked) (os := os) (X := fun w _ => laidMetH Tryd.prog Rows.pcodeWritesRow.laid w) false (World.doorLaid Tryd.prog 400 os) #[.agg #[.int .i64 0, .int .i64 0, .int .i64 0, .slice none 0 0]] 8 rfl (World.shaped_of_RefB (by kernel_rfl) (by kernel_rfl)) (by kernel_rfl) (by kernel_rfl) (by kernel_rfl) (door_met os _)) ?_
  intro W base args ds gs before hval0 hW hcnd hsz0 hL _
  have hT := tab_of_laid hL
  have hval : ∀ (j : Nat) t v, Tryd.f7.params[j]? = some t → args[j]? = some v → Value.okWide Tryd.prog W .any base t v := hval0
  have hW' := hW
  obtain ⟨p, q, hA0, hV, rfl, hfz, hnd⟩ := hW
  have hA : DataW.TrodAll enc Tryd.prog W 0 (fun _ => true) true Tryd.f7.params.toList args.toList ds p := hA0
  rw [Tryd.params7] at hA hval
  obtain ⟨v0, vs0, d0, ds0, p0, q0, hargs, rfl, rfl, h0, r0⟩ := trodAll_cons hA
  obtain ⟨rfl, rfl, rfl⟩ := trodAll_nil r0
  obtain rfl : args = #[v0] := by cases args; simp_all
  obtain ⟨rfl, rfl⟩ := trodVars_none hV
  have k0 := h0
  have lt0 : ∀ x ∈ p0, x.block < W.heap.size := by obtain ⟨m, hm⟩ := k0; exact DataW.trod_lt m _ _ _ hm
  obtain ⟨s0, a0, w0⟩ := Am.Reads.agg Tryd.underlying56 reads56 (hval 0 56 v0 rfl rfl) h0
  clear hA0 hval0 hsz0
  refine ((pcodewrites ⟨s0.1, s0.2.1, s0.2.2.1, s0.2.2.2⟩ ⟨Nat.le_trans w0.2.2.2.1 (by decide), fun f hf => Nat.le_trans (w0.2.2.2.2 f hf).1 (by decide)⟩).said (fun r st' h => h.1) (gok_of_keys hT) (Am.vrels_of (ys := [v0]) rfl (fun j v y hv hy => ?_))).mono ?_
  · match j, hv, hy with
    | 0, hv, hy => simp at hv hy; subst hv hy; exact a0
  rintro e W' ⟨rfl, hd⟩
  have bel : Below W.heap.size W W' := hd
  exact ⟨_, rfl, _, _, _, [], _, [], hW', trodAll_mk1 (shut_bool Tryd.underlying4 _), (trodAll_cons_mk (Below.trod laidOut (by kernel_rfl) (of_decide_eq_true (by kernel_rfl)) k0 bel lt0) trodAll_mk0), rfl, bel.frame _, fun h => by cases h⟩
theorem over : Rows.pcodeWritesRow.holds Tryd.pinned (OpenSpec.ofChange Rows.pcodeWritesSpec) :=
  OpenClaim.holds_of_wide 7 Tryd.f7 rfl rfl rfl rfl rfl rfl rfl ⟨rfl, rfl, rfl, rfl, rfl⟩ rfl rfl rfl rfl rfl (by kernel_rfl) Tryd.func7 (by kernel_rfl)
    (of_decide_eq_true (by kernel_rfl)) (by unfold Func.isWrapper; first | (rw [if_pos (by decide +kernel)]; kernel_rfl) | (rw [if_neg (by decide +kernel)]; exact ⟨rfl, rfl⟩))
    (fun os started H enc _ => lifted os started H enc)
theorem proved : Rows.PcodeWritesSaid := over
#print axioms proved
end Go.Proofs.YtdbmfnhbgacldaaDoor.pcodeWrites
namespace Go.Proofs.YtdbmfnhbgacldaaDoor
theorem pcodeWrites_holds : Rows.PcodeWritesCardSaid :=
  Claim7.holds_tied_plain_at .later [] [.data] true (true, "4cee3722885666376d22a5d816f178b4e8f67dfbbefb0a260780290ec2c0ed8c") false
    pcodeWrites.proved (fun _ h => by cases h) (by kernel_rfl) (fun _ h => by cases h) pcodeWrites_row_tie rfl ⟨rfl, rfl⟩ (by kernel_rfl) rfl
    (fun f fn hf hfn => by
      obtain rfl : f = 7 := Option.some.inj ((show Tryd.prog.funcNamed "alibi/alibilaw07.PcodeWrites" = some 7 by kernel_rfl).symm.trans hf) |>.symm
      obtain rfl : fn = Tryd.f7 := (Option.some.inj (Tryd.func7.symm.trans hfn)).symm
      exact ⟨by kernel_rfl, fun j t ht => by
        rw [Tryd.params7] at ht
        have hm : t ∈ [56] := by simpa using Array.mem_of_getElem? ht
        have hall : ([56].all fun u => !Tryd.prog.wantsStandIn u) = true := by kernel_rfl
        exact (show Tryd.prog.wantsStandIn t = false by simpa using List.all_eq_true.1 hall t hm)⟩)
    (by kernel_rfl)
#print axioms pcodeWrites_holds
end Go.Proofs.YtdbmfnhbgacldaaDoor
