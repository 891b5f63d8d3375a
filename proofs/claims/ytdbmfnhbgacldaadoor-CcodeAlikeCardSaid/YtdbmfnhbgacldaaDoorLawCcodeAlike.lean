/- The row of alibi/alibilaw19.CcodeAlike: whatever the input, the call returns true and its arguments read afterwards as they read before. No condition. -/
import Derived.Test.YtdbmfnhbgacldaaDoorRows
import Derived.Test.YtdbmfnhbgacldaaDoorBdCcodeAlike35
import Derived.Test.YtdbmfnhbgacldaaDoorAmRa
import Derived.WalkKit
import Derived.ProofKit
import Derived.Test.YtdbmfnhbgacldaaDoorTie
import Derived.Test.YtdbmfnhbgacldaaDoorCards
import Derived.LaidMore
import Derived.SevenTiedAt
import Derived.Stop.Joined
namespace Go.Proofs.YtdbmfnhbgacldaaDoor.ccodeAlike
open Go.ChangeShapes Go.WideShapes Go.ChangeAt Go.RowKit Go.Proofs.YtdbmfnhbgacldaaDoor.Am
open Go.ChangeMaps (open_string shut_string)
set_option linter.unusedVariables false
theorem own : ownKnob Tryd.prog.godebug = none := by kernel_rfl
theorem laidOut : laidOutB Tryd.prog = true := by kernel_rfl
set_option maxRecDepth 100000 in
theorem reads5 : Am.Reads Tryd.prog 5 (fun x : Nat => [I.int .u8 (x : Int)]) (fun x => x < 256) :=
  (Am.Reads.int Tryd.underlying5).mapQ Int.toNat (fun n h => congrArg (fun z => [I.int .u8 z]) (Int.toNat_of_nonneg (nat_wf_u8 h).1)) (fun n h => (nat_wf_u8 h).2)
set_option maxRecDepth 100000 in
theorem reads60 : Am.Reads Tryd.prog 60 (fun x : (List Nat) => (x.map fun y0 : Nat => I.int .u8 (y0 : Int))) (fun x => (x.length = 32 ∧ ∀ y1 ∈ x, y1 < 256)) :=
  (Am.Reads.array Tryd.underlying60 reads5 (by kernel_rfl) (by kernel_rfl)).map (fun x => x) (fun _ => rfl) (fun x h => h)
set_option maxRecDepth 100000 in
theorem reads28 : Am.Reads Tryd.prog 28 (fun x : Nat => [I.int .u32 (x : Int)]) (fun x => x < 4294967296) :=
  (Am.Reads.int Tryd.underlying28).mapQ Int.toNat (fun n h => congrArg (fun z => [I.int .u32 z]) (Int.toNat_of_nonneg (nat_wf_u32 h).1)) (fun n h => (nat_wf_u32 h).2)
set_option maxRecDepth 100000 in
theorem reads108 : Am.Reads Tryd.prog 108 (fun x : (List Nat) => [I.sl (x.map fun y0 : Nat => [I.int .u32 (y0 : Int)])]) (fun x => (x.length ≤ maxLen ∧ ∀ y1 ∈ x, y1 < 4294967296)) :=
  (Am.Reads.slice Tryd.underlying108 reads28 (of_decide_eq_true (by kernel_rfl))).map (fun x => x) (fun _ => rfl) (fun x h => h)
set_option maxRecDepth 100000 in
theorem reads114 : Am.Reads Tryd.prog 114 (fun x : (Nat × Nat × (List Nat) × Nat × Nat × (List Nat)) => [I.int .u32 (x.1 : Int), I.int .u32 (x.2.1 : Int), I.sl (x.2.2.1.map fun y0 : Nat => [I.int .u32 (y0 : Int)]), I.int .u32 (x.2.2.2.1 : Int), I.int .u32 (x.2.2.2.2.1 : Int), I.sl (x.2.2.2.2.2.map fun y0 : Nat => [I.int .u32 (y0 : Int)])]) (fun x => (x.1 < 4294967296 ∧ x.2.1 < 4294967296 ∧ (x.2.2.1.length ≤ maxLen ∧ ∀ y7 ∈ x.2.2.1, y7 < 4294967296) ∧ x.2.2.2.1 < 4294967296 ∧ x.2.2.2.2.1 < 4294967296 ∧ (x.2.2.2.2.2.length ≤ maxLen ∧ ∀ y11 ∈ x.2.2.2.2.2, y11 < 4294967296))) :=
  (Am.Reads.struct Tryd.underlying114 (by kernel_rfl) (Am.ReadsF.cons reads28 (Am.ReadsF.cons reads28 (Am.ReadsF.cons reads108 (Am.ReadsF.cons reads28 (Am.ReadsF.cons reads28 (Am.ReadsF.one reads108))))))).map (fun x => x) (fun x => rfl) (fun x h => h)
set_option maxRecDepth 100000 in
theorem reads67 : Am.Reads Tryd.prog 67 (fun x : (List (Nat × Nat × (List Nat) × Nat × Nat × (List Nat))) => [I.sl (x.map fun y0 : (Nat × Nat × (List Nat) × Nat × Nat × (List Nat)) => [I.int .u32 (y0.1 : Int), I.int .u32 (y0.2.1 : Int), I.sl (y0.2.2.1.map fun y1 : Nat => [I.int .u32 (y1 : Int)]), I.int .u32 (y0.2.2.2.1 : Int), I.int .u32 (y0.2.2.2.2.1 : Int), I.sl (y0.2.2.2.2.2.map fun y1 : Nat => [I.int .u32 (y1 : Int)])])]) (fun x => (x.length ≤ maxLen ∧ ∀ y1 ∈ x, (y1.1 < 4294967296 ∧ y1.2.1 < 4294967296 ∧ (y1.2.2.1.length ≤ maxLen ∧ ∀ y8 ∈ y1.2.2.1, y8 < 4294967296) ∧ y1.2.2.2.1 < 4294967296 ∧ y1.2.2.2.2.1 < 4294967296 ∧ (y1.2.2.2.2.2.length ≤ maxLen ∧ ∀ y12 ∈ y1.2.2.2.2.2, y12 < 4294967296)))) :=
  (Am.Reads.slice Tryd.underlying67 reads114 (of_decide_eq_true (by kernel_rfl))).map (fun x => x) (fun _ => rfl) (fun x h => h)
set_option maxRecDepth 100000 in
theorem reads3 : Am.Reads Tryd.prog 3 (fun x : Int => [I.int .i64 x]) (fun x => (Lit.int .i64 x).wf = true) :=
  Am.Reads.int Tryd.underlying3
set_option maxRecDepth 100000 in
theorem reads122 : Am.Reads Tryd.prog 122 (fun x : (Int × Int) => [I.int .i64 x.1, I.int .i64 x.2]) (fun x => ((Lit.int .i64 x.1).wf = true ∧ (Lit.int .i64 x.2).wf = true)) :=
  (Am.Reads.struct Tryd.underlying122 (by kernel_rfl) (Am.ReadsF.cons reads3 (Am.ReadsF.one reads3))).map (fun x => x) (fun x => rfl) (fun x h => h)
set_option maxRecDepth 100000 in
theorem reads68 : Am.Reads Tryd.prog 68 (fun x : (List (Int × Int)) => [I.sl (x.map fun y0 : (Int × Int) => [I.int .i64 y0.1, I.int .i64 y0.2])]) (fun x => (x.length ≤ maxLen ∧ ∀ y1 ∈ x, ((Lit.int .i64 y1.1).wf = true ∧ (Lit.int .i64 y1.2).wf = true))) :=
  (Am.Reads.slice Tryd.underlying68 reads122 (of_decide_eq_true (by kernel_rfl))).map (fun x => x) (fun _ => rfl) (fun x h => h)
set_option maxRecDepth 100000 in
theorem reads70 : Am.Reads Tryd.prog 70 (fun x : ((List Nat) × (List (Nat × Nat × (List Nat) × Nat × Nat × (List Nat))) × (List (Int × Int))) => (x.1.map fun y0 : Nat => I.int .u8 (y0 : Int)) ++ [I.sl (x.2.1.map fun y0 : (Nat × Nat × (List Nat) × Nat × Nat × (List Nat)) => [I.int .u32 (y0.1 : Int), I.int .u32 (y0.2.1 : Int), I.sl (y0.2.2.1.map fun y1 : Nat => [I.int .u32 (y1 : Int)]), I.int .u32 (y0.2.2.2.1 : Int), I.int .u32 (y0.2.2.2.2.1 : Int), I.sl (y0.2.2.2.2.2.map fun y1 : Nat => [I.int .u32 (y1 : Int)])]), I.sl (x.2.2.map fun y0 : (Int × Int) => [I.int .i64 y0.1, I.int .i64 y0.2])]) (fun x => ((x.1.length = 32 ∧ ∀ y3 ∈ x.1, y3 < 256) ∧ (x.2.1.length ≤ maxLen ∧ ∀ y5 ∈ x.2.1, (y5.1 < 4294967296 ∧ y5.2.1 < 4294967296 ∧ (y5.2.2.1.length ≤ maxLen ∧ ∀ y8 ∈ y5.2.2.1, y8 < 4294967296) ∧ y5.2.2.2.1 < 4294967296 ∧ y5.2.2.2.2.1 < 4294967296 ∧ (y5.2.2.2.2.2.length ≤ maxLen ∧ ∀ y12 ∈ y5.2.2.2.2.2, y12 < 4294967296))) ∧ (x.2.2.length ≤ maxLen ∧ ∀ y5 ∈ x.2.2, ((Lit.int .i64 y5.1).wf = true ∧ (Lit.int .i64 y5.2).wf = true)))) :=
  (Am.Reads.struct Tryd.underlying70 (by kernel_rfl) (Am.ReadsF.cons reads60 (Am.ReadsF.cons reads67 (Am.ReadsF.one reads68)))).map (fun x => x) (fun x => rfl) (fun x h => h)
theorem door_met (os : Os) (args : Array Value) : laidMetH Tryd.prog Rows.ccodeAlikeRow.laid ((World.doorLaid Tryd.prog 400 os).forCall (fun _ _ => 0) ⟨#[], args, []⟩).memory :=
  laidMetH_of_parts3 (fuel := 8) (laidMet_of_run' 8 (by kernel_rfl) (by kernel_rfl)) (by kernel_rfl) (by kernel_rfl)
theorem tab_of_laid {W : World} (h : laidMetH Tryd.prog Rows.ccodeAlikeRow.laid W) : TabOk W ∧ KeysOk W := by
  rw [MakeChecks.laidMetH_plain _ _ _ (by kernel_rfl)] at h
  exact ⟨tab_ok h, keys_ok h.tail⟩
set_option maxRecDepth 100000 in
theorem lifted (os : Os) (started : os.Started) (H : Type) (enc : TypeId × Value → H) :
    ReturnsInHanded {} Tryd.checked os 9 .any (fun w args => (Rows.ccodeAlikeSpec.pre enc Tryd.prog Tryd.f9 [] false w args ∧ laidMetH Tryd.prog Rows.ccodeAlikeRow.laid w) ∧ sizedMet enc Tryd.prog Tryd.f9 (OpenSpec.ofChange Rows.ccodeAlikeSpec) false w args) (Rows.ccodeAlikeSpec.post enc Tryd.prog Tryd.f9 false true false false) := by
  refine returnsInHanded_of_change_and (C := Tryd.checked) (X := fun w _ => laidMetH Tryd.prog Rows.ccodeAlikeRow.laid w) (fun _ _ _ hh h => h.of_heap hh) own started (by kernel_rfl) Tryd.func9
    (ChangeSpec.witness_shaped (enc := enc) (C := Tryd.checked) (os := os) (X := fun w _ => laidMetH Tryd.prog Rows.ccodeAlikeRow.laid w) false (World.doorLaid Tryd.prog 400 os) #[.agg #[.int .u8 0, .int .u8 0, .int .u8 0, .int .u8 0, .int .u8 0, .int .u8 0, .int .u8 0, .int .u8 0, .int .u8 0, .int .u8 0, .int .u8 0, .int .u8 0, .int .u8 0, .int .u8 0, .int .u8 0, .int .u8 0, .int .u8 0, .int .u8 0, .int .u8 0, .int .u8 0, .int .u8 0, .int .u8 0, .int .u8 0, .int .u8 0, .int .u8 0, .int .u8 0, .int .u8 0, .int .u8 0, .int .u8 0, .int .u8 0, .int .u8 0, .int .u8 0, .slice none 0 0, .slice none 0 0], .agg #[.int .u8 0, .int .u8 0, .int .u8 0, .int .u8 0, .int .u8 0, .int .u8 0, .int .u8 0, .int .u8 0, .int .u8 0, .int .u8 0, .int .u8 0, .int .u8 0, .int .u8 0, .int .u8 0, .int .u8 0, .int .u8 0, .int .u8 0, .int .u8 0, .int .u8 0, .int .u8 0, .int .u8 0, .int .u8 0, .int .u8 0, .int .u8 0, .int .u8 0, .int .u8 0, .int .u8 0, .int .u8 0, .int .u8 0, .int .u8 0, .int .u8 0, .int .u8 0, .slice none 0 0, .slice none 0 0]] 8 rfl (World.shaped_of_RefB (by kernel_rfl) (by kernel_rfl)) (by kernel_rfl) (by kernel_rfl) (by kernel_rfl) (door_met os _)) ?_
  intro W base args ds gs before hval0 hW hcnd hsz0 hL _
  have hT := tab_of_laid hL
  have hval : ∀ (j : Nat) t v, Tryd.f9.params[j]? = some t → args[j]? = some v → Value.okWide Tryd.prog W .any base t v := hval0
  have hW' := hW
  obtain ⟨p, q, hA0, hV, rfl, hfz, hnd⟩ := hW
  have hA : DataW.TrodAll enc Tryd.prog W 0 (fun _ => true) true Tryd.f9.params.toList args.toList ds p := hA0
  rw [Tryd.params9] at hA hval
  obtain ⟨v0, vs0, d0, ds0, p0, q0, hargs, rfl, rfl, h0, r0⟩ := trodAll_cons hA
  obtain ⟨v1, vs1, d1, ds1, p1, q1, rfl, rfl, rfl, h1, r1⟩ := trodAll_cons r0
  obtain ⟨rfl, rfl, rfl⟩ := trodAll_nil r1
  obtain rfl : args = #[v0, v1] := by cases args; simp_all
  obtain ⟨rfl, rfl⟩ := trodVars_none hV
  have k0 := h0
  have lt0 : ∀ x ∈ p0, x.block < W.heap.size := by obtain ⟨m, hm⟩ := k0; exact DataW.trod_lt m _ _ _ hm
  obtain ⟨s0, a0, w0⟩ := Am.Reads.agg Tryd.underlying70 reads70 (hval 0 70 v0 rfl rfl) h0
  have k1 := h1
  have lt1 : ∀ x ∈ p1, x.block < W.heap.size := by obtain ⟨m, hm⟩ := k1; exact DataW.trod_lt m _ _ _ hm
  obtain ⟨s1, a1, w1⟩ := Am.Reads.agg Tryd.underlying70 reads70 (hval 1 70 v1 rfl rfl) h1
  clear hA0 hval0 hsz0
  refine ((ccodealike ⟨s0.1, s0.2.1, s0.2.2⟩ ⟨s1.1, s1.2.1, s1.2.2⟩ ⟨w0.1.1, w0.1.2, Nat.le_trans w0.2.1.1 (by decide), Nat.le_trans w0.2.2.1 (by decide), fun s hs => ⟨(w0.2.1.2 s hs).1, (w0.2.1.2 s hs).2.1, (w0.2.1.2 s hs).2.2.1.2, (w0.2.1.2 s hs).2.2.2.1, (w0.2.1.2 s hs).2.2.2.2.1, (w0.2.1.2 s hs).2.2.2.2.2.2⟩⟩ ⟨w1.1.1, w1.1.2, Nat.le_trans w1.2.1.1 (by decide), Nat.le_trans w1.2.2.1 (by decide), fun s hs => ⟨(w1.2.1.2 s hs).1, (w1.2.1.2 s hs).2.1, (w1.2.1.2 s hs).2.2.1.2, (w1.2.1.2 s hs).2.2.2.1, (w1.2.1.2 s hs).2.2.2.2.1, (w1.2.1.2 s hs).2.2.2.2.2.2⟩⟩).said (fun r st' h => h.1) (gok_of_both hT.1 hT.2) (Am.vrels_of (ys := [v0, v1]) rfl (fun j v y hv hy => ?_))).mono ?_
  · match j, hv, hy with
    | 0, hv, hy => simp at hv hy; subst hv hy; exact a0
    | 1, hv, hy => simp at hv hy; subst hv hy; exact a1
  rintro e W' ⟨rfl, hd⟩
  have bel : Below W.heap.size W W' := hd
  exact ⟨_, rfl, _, _, _, [], _, [], hW', trodAll_mk1 (shut_bool Tryd.underlying4 _), (trodAll_cons_mk (Below.trod laidOut (by kernel_rfl) (of_decide_eq_true (by kernel_rfl)) k0 bel lt0) (trodAll_cons_mk (Below.trod laidOut (by kernel_rfl) (of_decide_eq_true (by kernel_rfl)) k1 bel lt1) trodAll_mk0)), rfl, bel.frame _, fun h => by cases h⟩
theorem over : Rows.ccodeAlikeRow.holds Tryd.pinned (OpenSpec.ofChange Rows.ccodeAlikeSpec) :=
  OpenClaim.holds_of_wide 9 Tryd.f9 rfl rfl rfl rfl rfl rfl rfl ⟨rfl, rfl, rfl, rfl, rfl⟩ rfl rfl rfl rfl rfl (by kernel_rfl) Tryd.func9 (by kernel_rfl)
    (of_decide_eq_true (by kernel_rfl)) (by unfold Func.isWrapper; first | (rw [if_pos (by decide +kernel)]; kernel_rfl) | (rw [if_neg (by decide +kernel)]; exact ⟨rfl, rfl⟩))
    (fun os started H enc _ => lifted os started H enc)
theorem proved : Rows.CcodeAlikeSaid := over
#print axioms proved
end Go.Proofs.YtdbmfnhbgacldaaDoor.ccodeAlike
namespace Go.Proofs.YtdbmfnhbgacldaaDoor
theorem ccodeAlike_holds : Rows.CcodeAlikeCardSaid :=
  Claim7.holds_tied_plain_at .later [] [.data, .data] true (true, "4cee3722885666376d22a5d816f178b4e8f67dfbbefb0a260780290ec2c0ed8c") false
    ccodeAlike.proved (fun _ h => by cases h) (by kernel_rfl) (fun _ h => by cases h) ccodeAlike_row_tie rfl ⟨rfl, rfl⟩ (by kernel_rfl) rfl
    (fun f fn hf hfn => by
      obtain rfl : f = 9 := Option.some.inj ((show Tryd.prog.funcNamed "alibi/alibilaw19.CcodeAlike" = some 9 by kernel_rfl).symm.trans hf) |>.symm
      obtain rfl : fn = Tryd.f9 := (Option.some.inj (Tryd.func9.symm.trans hfn)).symm
      exact ⟨by kernel_rfl, fun j t ht => by
        rw [Tryd.params9] at ht
        have hm : t ∈ [70, 70] := by simpa using Array.mem_of_getElem? ht
        have hall : ([70, 70].all fun u => !Tryd.prog.wantsStandIn u) = true := by kernel_rfl
        exact (show Tryd.prog.wantsStandIn t = false by simpa using List.all_eq_true.1 hall t hm)⟩)
    (by kernel_rfl)
#print axioms ccodeAlike_holds
end Go.Proofs.YtdbmfnhbgacldaaDoor
