/- The row of alibi/alibilaw17.GuardAll: whatever the input, the call returns true and its arguments read afterwards as they read before. No condition. -/
import Derived.Test.YtpbbkfekibmaiaaDoorRows
import Derived.Test.YtpbbkfekibmaiaaDoorGrX
import Derived.Test.YtpbbkfekibmaiaaDoorWxT
import Derived.WalkKit
import Derived.ProofKit
import Derived.Test.YtpbbkfekibmaiaaDoorTie
import Derived.Test.YtpbbkfekibmaiaaDoorCards
import Derived.LaidMore
import Derived.SevenTiedAt
import Derived.Stop.Joined
namespace Go.Proofs.YtpbbkfekibmaiaaDoor.guardAll
open Go.ChangeShapes Go.WideShapes Go.ChangeAt Go.RowKit Go.Proofs.YtpbbkfekibmaiaaDoor.Am
open Go.ChangeMaps (open_string shut_string)
set_option linter.unusedVariables false
theorem own : ownKnob Tryd.prog.godebug = none := by kernel_rfl
theorem laidOut : laidOutB Tryd.prog = true := by kernel_rfl
set_option maxRecDepth 100000 in
theorem reads3 : Am.Reads Tryd.prog 3 (fun x : Int => [I.int .i64 x]) (fun x => (Lit.int .i64 x).wf = true) :=
  Am.Reads.int Tryd.underlying3
set_option maxRecDepth 100000 in
theorem reads48 : Am.Reads Tryd.prog 48 (fun x : (Int × Int × Int × Int) => [I.int .i64 x.1, I.int .i64 x.2.1, I.int .i64 x.2.2.1, I.int .i64 x.2.2.2]) (fun x => ((Lit.int .i64 x.1).wf = true ∧ (Lit.int .i64 x.2.1).wf = true ∧ (Lit.int .i64 x.2.2.1).wf = true ∧ (Lit.int .i64 x.2.2.2).wf = true)) :=
  (Am.Reads.struct Tryd.underlying48 (by kernel_rfl) (Am.ReadsF.cons reads3 (Am.ReadsF.cons reads3 (Am.ReadsF.cons reads3 (Am.ReadsF.one reads3))))).map (fun x => x) (fun x => rfl) (fun x h => h)
set_option maxRecDepth 100000 in
theorem reads43 : Am.Reads Tryd.prog 43 (fun x : (List (Int × Int × Int × Int)) => [I.sl (x.map fun y0 : (Int × Int × Int × Int) => [I.int .i64 y0.1, I.int .i64 y0.2.1, I.int .i64 y0.2.2.1, I.int .i64 y0.2.2.2])]) (fun x => (x.length ≤ maxLen ∧ ∀ y1 ∈ x, ((Lit.int .i64 y1.1).wf = true ∧ (Lit.int .i64 y1.2.1).wf = true ∧ (Lit.int .i64 y1.2.2.1).wf = true ∧ (Lit.int .i64 y1.2.2.2).wf = true))) :=
  (Am.Reads.slice Tryd.underlying43 reads48 (of_decide_eq_true (by kernel_rfl))).map (fun x => x) (fun _ => rfl) (fun x h => h)
set_option maxRecDepth 100000 in
theorem reads22 : Am.Reads Tryd.prog 22 (fun x : (List (List (Int × Int × Int × Int))) => [I.sl (x.map fun y0 : (List (Int × Int × Int × Int)) => [I.sl (y0.map fun y1 : (Int × Int × Int × Int) => [I.int .i64 y1.1, I.int .i64 y1.2.1, I.int .i64 y1.2.2.1, I.int .i64 y1.2.2.2])])]) (fun x => (x.length ≤ maxLen ∧ ∀ y1 ∈ x, (y1.length ≤ maxLen ∧ ∀ y2 ∈ y1, ((Lit.int .i64 y2.1).wf = true ∧ (Lit.int .i64 y2.2.1).wf = true ∧ (Lit.int .i64 y2.2.2.1).wf = true ∧ (Lit.int .i64 y2.2.2.2).wf = true)))) :=
  (Am.Reads.slice Tryd.underlying22 reads43 (of_decide_eq_true (by kernel_rfl))).map (fun x => x) (fun _ => rfl) (fun x h => h)
set_option maxRecDepth 100000 in
theorem reads24 : Am.Reads Tryd.prog 24 (fun x : (Int × Int × Int × (List (List (Int × Int × Int × Int)))) => [I.int .i64 x.1, I.int .i64 x.2.1, I.int .i64 x.2.2.1, I.sl (x.2.2.2.map fun y0 : (List (Int × Int × Int × Int)) => [I.sl (y0.map fun y1 : (Int × Int × Int × Int) => [I.int .i64 y1.1, I.int .i64 y1.2.1, I.int .i64 y1.2.2.1, I.int .i64 y1.2.2.2])])]) (fun x => ((Lit.int .i64 x.1).wf = true ∧ (Lit.int .i64 x.2.1).wf = true ∧ (Lit.int .i64 x.2.2.1).wf = true ∧ (x.2.2.2.length ≤ maxLen ∧ ∀ y7 ∈ x.2.2.2, (y7.length ≤ maxLen ∧ ∀ y2 ∈ y7, ((Lit.int .i64 y2.1).wf = true ∧ (Lit.int .i64 y2.2.1).wf = true ∧ (Lit.int .i64 y2.2.2.1).wf = true ∧ (Lit.int .i64 y2.2.2.2).wf = true))))) :=
  (Am.Reads.struct Tryd.underlying24 (by kernel_rfl) (Am.ReadsF.cons reads3 (Am.ReadsF.cons reads3 (Am.ReadsF.cons reads3 (Am.ReadsF.one reads22))))).map (fun x => x) (fun x => rfl) (fun x h => h)
set_option maxRecDepth 100000 in
theorem reads39 : Am.Reads Tryd.prog 39 (fun x : Nat => [I.int .u32 (x : Int)]) (fun x => x < 4294967296) :=
  (Am.Reads.int Tryd.underlying39).mapQ Int.toNat (fun n h => congrArg (fun z => [I.int .u32 z]) (Int.toNat_of_nonneg (nat_wf_u32 h).1)) (fun n h => (nat_wf_u32 h).2)
set_option maxRecDepth 100000 in
theorem reads44 : Am.Reads Tryd.prog 44 (fun x : (List Nat) => [I.sl (x.map fun y0 : Nat => [I.int .u32 (y0 : Int)])]) (fun x => (x.length ≤ maxLen ∧ ∀ y1 ∈ x, y1 < 4294967296)) :=
  (Am.Reads.slice Tryd.underlying44 reads39 (of_decide_eq_true (by kernel_rfl))).map (fun x => x) (fun _ => rfl) (fun x h => h)
set_option maxRecDepth 100000 in
theorem reads46 : Am.Reads Tryd.prog 46 (fun x : (Nat × Nat × (List Nat) × Nat × Nat × (List Nat)) => [I.int .u32 (x.1 : Int), I.int .u32 (x.2.1 : Int), I.sl (x.2.2.1.map fun y0 : Nat => [I.int .u32 (y0 : Int)]), I.int .u32 (x.2.2.2.1 : Int), I.int .u32 (x.2.2.2.2.1 : Int), I.sl (x.2.2.2.2.2.map fun y0 : Nat => [I.int .u32 (y0 : Int)])]) (fun x => (x.1 < 4294967296 ∧ x.2.1 < 4294967296 ∧ (x.2.2.1.length ≤ maxLen ∧ ∀ y7 ∈ x.2.2.1, y7 < 4294967296) ∧ x.2.2.2.1 < 4294967296 ∧ x.2.2.2.2.1 < 4294967296 ∧ (x.2.2.2.2.2.length ≤ maxLen ∧ ∀ y11 ∈ x.2.2.2.2.2, y11 < 4294967296))) :=
  (Am.Reads.struct Tryd.underlying46 (by kernel_rfl) (Am.ReadsF.cons reads39 (Am.ReadsF.cons reads39 (Am.ReadsF.cons reads44 (Am.ReadsF.cons reads39 (Am.ReadsF.cons reads39 (Am.ReadsF.one reads44))))))).map (fun x => x) (fun x => rfl) (fun x h => h)
set_option maxRecDepth 100000 in
theorem reads25 : Am.Reads Tryd.prog 25 (fun x : (List (Nat × Nat × (List Nat) × Nat × Nat × (List Nat))) => [I.sl (x.map fun y0 : (Nat × Nat × (List Nat) × Nat × Nat × (List Nat)) => [I.int .u32 (y0.1 : Int), I.int .u32 (y0.2.1 : Int), I.sl (y0.2.2.1.map fun y1 : Nat => [I.int .u32 (y1 : Int)]), I.int .u32 (y0.2.2.2.1 : Int), I.int .u32 (y0.2.2.2.2.1 : Int), I.sl (y0.2.2.2.2.2.map fun y1 : Nat => [I.int .u32 (y1 : Int)])])]) (fun x => (x.length ≤ maxLen ∧ ∀ y1 ∈ x, (y1.1 < 4294967296 ∧ y1.2.1 < 4294967296 ∧ (y1.2.2.1.length ≤ maxLen ∧ ∀ y8 ∈ y1.2.2.1, y8 < 4294967296) ∧ y1.2.2.2.1 < 4294967296 ∧ y1.2.2.2.2.1 < 4294967296 ∧ (y1.2.2.2.2.2.length ≤ maxLen ∧ ∀ y12 ∈ y1.2.2.2.2.2, y12 < 4294967296)))) :=
  (Am.Reads.slice Tryd.underlying25 reads46 (of_decide_eq_true (by kernel_rfl))).map (fun x => x) (fun _ => rfl) (fun x h => h)
set_option maxRecDepth 100000 in
theorem reads33 : Am.Reads Tryd.prog 33 (fun x : (Int × Int) => [I.int .i64 x.1, I.int .i64 x.2]) (fun x => ((Lit.int .i64 x.1).wf = true ∧ (Lit.int .i64 x.2).wf = true)) :=
  (Am.Reads.struct Tryd.underlying33 (by kernel_rfl) (Am.ReadsF.cons reads3 (Am.ReadsF.one reads3))).map (fun x => x) (fun x => rfl) (fun x h => h)
theorem door_met (os : Os) (args : Array Value) : laidMetH Tryd.prog Rows.guardAllRow.laid ((World.doorLaid Tryd.prog 400 os).forCall (fun _ _ => 0) ⟨#[], args, []⟩).memory :=
  laidMetH_of_parts3 (fuel := 8) (laidMet_of_run' 8 (by kernel_rfl) (by kernel_rfl)) (by kernel_rfl) (by kernel_rfl)
theorem tab_of_laid {W : World} (h : laidMetH Tryd.prog Rows.guardAllRow.laid W) : TabOk W := by
  rw [MakeChecks.laidMetH_plain _ _ _ (by kernel_rfl)] at h
  exact tab_ok h
set_option maxRecDepth 100000 in
theorem lifted (os : Os) (started : os.Started) (H : Type) (enc : TypeId × Value → H) :
    ReturnsInHanded {} Tryd.checked os 8 .any (fun w args => (Rows.guardAllSpec.pre enc Tryd.prog Tryd.f8 [] false w args ∧ laidMetH Tryd.prog Rows.guardAllRow.laid w) ∧ sizedMet enc Tryd.prog Tryd.f8 (OpenSpec.ofChange Rows.guardAllSpec) false w args) (Rows.guardAllSpec.post enc Tryd.prog Tryd.f8 false true false false) := by
  refine returnsInHanded_of_change_and (C := Tryd.checked) (X := fun w _ => laidMetH Tryd.prog Rows.guardAllRow.laid w) (fun _ _ _ hh h => h.of_heap hh) own started (by kernel_rfl) Tryd.func8
    (ChangeSpec.witness_shaped (enc := enc) (C := Tryd.checked) (os := os) (X := fun w _ => laidMetH Tryd.prog Rows.guardAllRow.laid w) false (World.doorLaid Tryd.prog 400 os) #[.agg #[.int .i64 0, .int .i64 0, .int .i64 0, .slice none 0 0], .slice none 0 0, .agg #[.int .i64 0, .int .i64 0]] 8 rfl (World.shaped_of_RefB (by kernel_rfl) (by kernel_rfl)) (by kernel_rfl) (by kernel_rfl) (by kernel_rfl) (door_met os _)) ?_
  intro W base args ds gs before hval0 hW hcnd hsz0 hL _
  have hT := tab_of_laid hL
  have hval : ∀ (j : Nat) t v, Tryd.f8.params[j]? = some t → args[j]? = some v → Value.okWide Tryd.prog W .any base t v := hval0
  have hW' := hW
  obtain ⟨p, q, hA0, hV, rfl, hfz, hnd⟩ := hW
  have hA : DataW.TrodAll enc Tryd.prog W 0 (fun _ => true) true Tryd.f8.params.toList args.toList ds p := hA0
  rw [Tryd.params8] at hA hval
  obtain ⟨v0, vs0, d0, ds0, p0, q0, hargs, rfl, rfl, h0, r0⟩ := trodAll_cons hA
  obtain ⟨v1, vs1, d1, ds1, p1, q1, rfl, rfl, rfl, h1, r1⟩ := trodAll_cons r0
  obtain ⟨v2, vs2, d2, ds2, p2, q2, rfl, rfl, rfl, h2, r2⟩ := trodAll_cons r1
  obtain ⟨rfl, rfl, rfl⟩ := trodAll_nil r2
  obtain rfl : args = #[v0, v1, v2] := by cases args; simp_all
  obtain ⟨rfl, rfl⟩ := trodVars_none hV
  have k0 := h0
  have lt0 : ∀ x ∈ p0, x.block < W.heap.size := by obtain ⟨m, hm⟩ := k0; exact DataW.trod_lt m _ _ _ hm
  obtain ⟨s0, a0, w0⟩ := Am.Reads.agg Tryd.underlying24 reads24 (hval 0 24 v0 rfl rfl) h0
  have k1 := h1
  have lt1 : ∀ x ∈ p1, x.block < W.heap.size := by obtain ⟨m, hm⟩ := k1; exact DataW.trod_lt m _ _ _ hm
  obtain ⟨_, _, _, e1⟩ := okWide_slice Tryd.underlying25 (hval 1 25 v1 rfl rfl)
  obtain ⟨s1, a1, w1⟩ := Am.Reads.one reads25 (by rw [e1]; rfl) h1
  have k2 := h2
  have lt2 : ∀ x ∈ p2, x.block < W.heap.size := by obtain ⟨m, hm⟩ := k2; exact DataW.trod_lt m _ _ _ hm
  obtain ⟨s2, a2, w2⟩ := Am.Reads.agg Tryd.underlying33 reads33 (hval 2 33 v2 rfl rfl) h2
  clear hA0 hval0 hsz0
  refine ((guardall ⟨s0.1, s0.2.1, s0.2.2.1, s0.2.2.2⟩ ⟨Nat.le_trans w0.2.2.2.1 (by decide), fun f hf => Nat.le_trans (w0.2.2.2.2 f hf).1 (by decide)⟩ s1 (Nat.le_trans w1.1 (by decide)) (fun s hs => ⟨⟨Nat.le_trans (w1.2 s hs).2.2.1.1 (by decide), (w1.2 s hs).2.2.1.2⟩, Nat.le_trans (w1.2 s hs).2.2.2.2.2.1 (by decide), (w1.2 s hs).2.2.2.2.2.2⟩) s2).said (fun r st' h => h.1) (gok_of_tab hT) (Am.vrels_of (ys := [v0, v1, v2]) rfl (fun j v y hv hy => ?_))).mono ?_
  · match j, hv, hy with
    | 0, hv, hy => simp at hv hy; subst hv hy; exact a0
    | 1, hv, hy => simp at hv hy; subst hv hy; exact a1
    | 2, hv, hy => simp at hv hy; subst hv hy; exact a2
  rintro e W' ⟨rfl, hd⟩
  have bel : Below W.heap.size W W' := hd
  exact ⟨_, rfl, _, _, _, [], _, [], hW', trodAll_mk1 (shut_bool Tryd.underlying4 _), (trodAll_cons_mk (Below.trod laidOut (by kernel_rfl) (of_decide_eq_true (by kernel_rfl)) k0 bel lt0) (trodAll_cons_mk (Below.trod laidOut (by kernel_rfl) (of_decide_eq_true (by kernel_rfl)) k1 bel lt1) (trodAll_cons_mk (Below.trod laidOut (by kernel_rfl) (of_decide_eq_true (by kernel_rfl)) k2 bel lt2) trodAll_mk0))), rfl, bel.frame _, fun h => by cases h⟩
theorem over : Rows.guardAllRow.holds Tryd.pinned (OpenSpec.ofChange Rows.guardAllSpec) :=
  OpenClaim.holds_of_wide 8 Tryd.f8 rfl rfl rfl rfl rfl rfl rfl ⟨rfl, rfl, rfl, rfl, rfl⟩ rfl rfl rfl rfl rfl (by kernel_rfl) Tryd.func8 (by kernel_rfl)
    (of_decide_eq_true (by kernel_rfl)) (by unfold Func.isWrapper; first | (rw [if_pos (by decide +kernel)]; kernel_rfl) | (rw [if_neg (by decide +kernel)]; exact ⟨rfl, rfl⟩))
    (fun os started H enc _ => lifted os started H enc)
theorem proved : Rows.GuardAllSaid := over
#print axioms proved
end Go.Proofs.YtpbbkfekibmaiaaDoor.guardAll
namespace Go.Proofs.YtpbbkfekibmaiaaDoor
theorem guardAll_holds : Rows.GuardAllCardSaid :=
  Claim7.holds_tied_plain_at .later [] [.data] true (true, "ac45b1c33eeb2fdba44792b621a9b54636ae8b7bb0cf9023f007bd1d3d5e9670") false
    guardAll.proved (fun _ h => by cases h) (by kernel_rfl) (fun _ h => by cases h) guardAll_row_tie rfl ⟨rfl, rfl⟩ (by kernel_rfl) rfl
    (fun f fn hf hfn => by
      obtain rfl : f = 8 := Option.some.inj ((show Tryd.prog.funcNamed "alibi/alibilaw17.GuardAll" = some 8 by kernel_rfl).symm.trans hf) |>.symm
      obtain rfl : fn = Tryd.f8 := (Option.some.inj (Tryd.func8.symm.trans hfn)).symm
      exact ⟨by kernel_rfl, fun j t ht => by
        rw [Tryd.params8] at ht
        have hm : t ∈ [24, 25, 33] := by simpa using Array.mem_of_getElem? ht
        have hall : ([24, 25, 33].all fun u => !Tryd.prog.wantsStandIn u) = true := by kernel_rfl
        exact (show Tryd.prog.wantsStandIn t = false by simpa using List.all_eq_true.1 hall t hm)⟩)
    (by kernel_rfl)
#print axioms guardAll_holds
end Go.Proofs.YtpbbkfekibmaiaaDoor
