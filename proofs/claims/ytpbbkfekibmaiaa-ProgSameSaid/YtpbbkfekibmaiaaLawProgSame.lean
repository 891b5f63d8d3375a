/- The row of alibi/alibilaw05.ProgSame: whatever the input, the call returns true and each argument reads afterwards as it read before. Its walk is a printed one; its pure statement is proved in YtpbbkfekibmaiaaPureProgSame. No condition. -/
import Derived.Test.YtpbbkfekibmaiaaRows
import Derived.Test.YtpbbkfekibmaiaaQx15
import Derived.Test.YtpbbkfekibmaiaaQRdProgSame
import Derived.Test.YtpbbkfekibmaiaaPureProgSame
import Derived.WalkKit
import Derived.ProofKit
import Derived.OpenShut
import Derived.ShutString
import Derived.ChangeOld
import Derived.Below
import Derived.SizedLaws
namespace Go.Proofs.Ytpbbkfekibmaiaa.progSame
open Go.ChangeShapes Go.WideShapes Go.ChangeAt
open Go.RowKit Go.Proofs.YtpbbkfekibmaiaaW.PrintWords Go.Proofs.YtpbbkfekibmaiaaW.PrintLast Go.Proofs.Ytpbbkfekibmaiaa.Q Go.Proofs.Ytpbbkfekibmaiaa.Rd Go.Proofs.Ytpbbkfekibmaiaa.Q.OfProgSame
open Go.ChangeMaps (open_string shut_string)
set_option linter.unusedVariables false
theorem own : ownKnob Try.prog.godebug = none := by kernel_rfl
theorem laidOut : laidOutB Try.prog = true := by kernel_rfl
set_option maxRecDepth 100000 in
theorem lifted (os : Os) (started : os.Started) (H : Type) (enc : TypeId × Value → H) :
    ReturnsInHanded {} Try.checked os 8 .any (Rows.progSameSpec.pre6 enc Try.prog Try.f8 Rows.progSameRow.domain false) (Rows.progSameSpec.post enc Try.prog Try.f8 false true false false) := by
  refine returnsInHanded_of_change_sized (C := Try.checked) own started (by kernel_rfl) Try.func8
    (ChangeSpec.witness6 (enc := enc) (C := Try.checked) false ⟨#[], #[.agg #[.int .i64 0, .int .i64 0, .int .i64 0, .slice none 0 0], .agg #[.int .i64 0, .int .i64 0, .int .i64 0, .slice none 0 0]], []⟩ 8 (by kernel_rfl) (by kernel_rfl) (by kernel_rfl) (by kernel_rfl)) ?_
  intro W base args ds gs before hval0 hW hcnd hsz0 _
  have hval : ∀ (j : Nat) t v, Try.f8.params[j]? = some t → args[j]? = some v → Value.okWide Try.prog W .any base t v := hval0
  have hW' := hW
  obtain ⟨p, q, hA0, hV, rfl, hfz, hnd⟩ := hW
  have hA : DataW.TrodAll enc Try.prog W 0 (fun _ => true) true Try.f8.params.toList args.toList ds p := hA0
  rw [Try.params8] at hA hval
  obtain ⟨v0, vs0, d0, ds0, p0, q0, hargs, rfl, rfl, h0, r0⟩ := trodAll_cons hA
  obtain ⟨v1, vs1, d1, ds1, p1, q1, rfl, rfl, rfl, h1, r1⟩ := trodAll_cons r0
  obtain ⟨rfl, rfl, rfl⟩ := trodAll_nil r1
  obtain rfl : args = #[v0, v1] := by cases args; simp_all
  obtain ⟨rfl, rfl⟩ := trodVars_none hV
  have k0 := h0
  have lt0 : ∀ x ∈ p0, x.block < W.heap.size := by obtain ⟨m, hm⟩ := k0; exact DataW.trod_lt m _ _ _ hm
  obtain ⟨cs0, s0, rfl, K0, w0⟩ := Reads.agg Try.underlying24 reads24 (hval 0 24 v0 rfl rfl) h0
  obtain ⟨A0_3, c0_3, e0, hc0_3, hr0_3⟩ := k24_open K0
  obtain rfl : cs0 = #[.int .i64 s0.f0, .int .i64 s0.f1, .int .i64 s0.f2, .slice A0_3 s0.f3.length c0_3] := by rw [← Array.toArray_toList (xs := cs0), e0]
  have k1 := h1
  have lt1 : ∀ x ∈ p1, x.block < W.heap.size := by obtain ⟨m, hm⟩ := k1; exact DataW.trod_lt m _ _ _ hm
  obtain ⟨cs1, s1, rfl, K1, w1⟩ := Reads.agg Try.underlying24 reads24 (hval 1 24 v1 rfl rfl) h1
  obtain ⟨A1_3, c1_3, e1, hc1_3, hr1_3⟩ := k24_open K1
  obtain rfl : cs1 = #[.int .i64 s1.f0, .int .i64 s1.f1, .int .i64 s1.f2, .slice A1_3 s1.f3.length c1_3] := by rw [← Array.toArray_toList (xs := cs1), e1]
  clear hA0 hval0 hsz0
  obtain ⟨k, hk⟩ := Pure.ProgSame s0 s1 w0 w1
  refine (alibilaw05_ProgSame.calls k s0.f0 s0.f1 s0.f2 A0_3 c0_3 s0.f3 s1.f0 s1.f1 s1.f2 A1_3 c1_3 s1.f3 true W (hr0_3 := hr0_3) (hc0_3 := hc0_3) (hr1_3 := hr1_3) (hc1_3 := hc1_3) (h := hk)).mono ?_
  rintro e W' ⟨rfl, hd⟩
  have bel : Below W.heap.size W W' := by first | exact hd | exact hd.below
  exact ⟨_, rfl, _, _, _, [], _, [], hW', trodAll_mk1 (shut_bool Try.underlying4 _), (trodAll_cons_mk (Below.trod laidOut (by kernel_rfl) (of_decide_eq_true (by kernel_rfl)) k0 bel lt0) (trodAll_cons_mk (Below.trod laidOut (by kernel_rfl) (of_decide_eq_true (by kernel_rfl)) k1 bel lt1) trodAll_mk0)), rfl, bel.frame _, fun h => by cases h⟩
theorem over : Rows.progSameRow.holds Try.pinned (OpenSpec.ofChange Rows.progSameSpec) :=
  OpenClaim.holds_of_wide 8 Try.f8 rfl rfl rfl rfl rfl rfl rfl ⟨rfl, rfl, rfl, rfl, rfl⟩ rfl rfl rfl rfl rfl (by kernel_rfl) Try.func8 (by kernel_rfl)
    (of_decide_eq_true (by kernel_rfl)) (by unfold Func.isWrapper; first | (rw [if_pos (by decide +kernel)]; kernel_rfl) | (rw [if_neg (by decide +kernel)]; exact ⟨rfl, rfl⟩))
    (fun os started H enc _ => lifted os started H enc)
theorem proved : Rows.ProgSameSaid := over
#print axioms proved
end Go.Proofs.Ytpbbkfekibmaiaa.progSame
namespace Go.Proofs.Ytpbbkfekibmaiaa
/-- The row, under a short name, for the claim. -/
theorem progSame_holds : Rows.ProgSameSaid := progSame.proved
end Go.Proofs.Ytpbbkfekibmaiaa
