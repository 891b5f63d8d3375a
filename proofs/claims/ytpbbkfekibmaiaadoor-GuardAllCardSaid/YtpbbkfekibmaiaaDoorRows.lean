/-
  NARROWER THAN 'FOR EVERY INPUT', by the rows' own cells (each row's printed sentence says how): GuardBest: laid · GuardNeeds: laid · GuardMore: laid · GuardHolds: laid · GuardChecks: laid · GuardAll: laid.
  DERIVED. THE GIVEN ROWS OF THIS SEAT. 6 by the template 'for every input the law returns true; each argument reads behind the call as it read before'; 0 by the template 'total and deterministic' (their statements: YtpbbkfekibmaiaaDoorTotals.lean).
  GIVEN WITH THE SEED: the statements are not yours to turn. If you find one false, say at which input.
  Laid BY PROGRAM, IN A SANDBOX (cutbox-rows.mjs): the forced cells as the released guide's own fill.sh prints them over the translation 87f2deb1dcf31045… (all of the seat's roots in one cut). By AI agents, Wed Nov 11 2026. No macro, syntax, notation, axiom, sorry.
-/
import Derived.Test.YtpbbkfekibmaiaaDoorChecked
import GoSem.Claim
import GoSem.ClaimJoined
import GoSem.ClaimMapViews
import Derived.JoinedTies
import Derived.KernelRfl
namespace Go.Proofs.YtpbbkfekibmaiaaDoor
/- THE CELL 'sum', in the pinned program and in every row, IS THE sha256 OF THE DUMP (.gsa) THAT YtpbbkfekibmaiaaDoorProg.lean LOADS. Nothing in Lean hashes anything: it is a label: what it is worth is what the hold of that sum in a sandbox is worth. -/
noncomputable def Tryd.pinned : Pinned := { name := "ytpbbkfekibmaiaadoor", sum := "87f2deb1dcf310454765d042967a745caa94699f26a6effb3b05355be8aab1d2", checked := Tryd.checked }
namespace Rows
def none {H : Type} : Left H := { results := [], args := [] }

/- WHAT THE LISTED PACKAGE-LEVEL VARIABLES READ AS WHEN THE CALL BEGINS. Each datum BY PROGRAM (the guide's laid-datum.mjs) off the statement by which the dump's own 'gosem.cut.vars' lays the variable. In a bare row this is a premise. The card (YtpbbkfekibmaiaaDoorCards.lean) ties it to the program's text. -/
def laid_math_bits_deBruijn32tab {H : Type} : DataW H := .agg [.lit (.int .u8 0), .lit (.int .u8 1), .lit (.int .u8 28), .lit (.int .u8 2), .lit (.int .u8 29), .lit (.int .u8 14), .lit (.int .u8 24), .lit (.int .u8 3), .lit (.int .u8 30), .lit (.int .u8 22), .lit (.int .u8 20), .lit (.int .u8 15), .lit (.int .u8 25), .lit (.int .u8 17), .lit (.int .u8 4), .lit (.int .u8 8), .lit (.int .u8 31), .lit (.int .u8 27), .lit (.int .u8 13), .lit (.int .u8 23), .lit (.int .u8 21), .lit (.int .u8 19), .lit (.int .u8 16), .lit (.int .u8 7), .lit (.int .u8 26), .lit (.int .u8 12), .lit (.int .u8 18), .lit (.int .u8 6), .lit (.int .u8 11), .lit (.int .u8 5), .lit (.int .u8 10), .lit (.int .u8 9)]

/-- 'alibilaw17.GuardBest': WHATEVER THE INPUT: true; the input reads as it did. -/
def guardBestSpec : ChangeSpec := { name := "guardBest", fn := fun _ => fun
  | [d1, d2, d3] => { results := [.lit (.bool true)], args := [d1, d2, d3] }
  | _ => none }
def guardBestRow : OpenClaim := { program := "ytpbbkfekibmaiaadoor", sum := "87f2deb1dcf310454765d042967a745caa94699f26a6effb3b05355be8aab1d2", func := "alibi/alibilaw17.GuardBest", spec := "guardBest", named := ["math/bits.deBruijn32tab"], apart := false, laid := [("math/bits.deBruijn32tab", laid_math_bits_deBruijn32tab)] }
def GuardBestSaid : Prop := guardBestRow.holds Tryd.pinned (OpenSpec.ofChange guardBestSpec)

/-- ITS FALSE NEIGHBOUR: 'it returns false'. Refute it at one input. -/
def guardBestWrong : ChangeSpec := { name := "guardBest", fn := fun _ => fun
  | [d1, d2, d3] => { results := [.lit (.bool false)], args := [d1, d2, d3] }
  | _ => none }
def GuardBestWrongFalsely : Prop := guardBestRow.holds Tryd.pinned (OpenSpec.ofChange guardBestWrong)

/-- 'alibilaw17.GuardNeeds': WHATEVER THE INPUT: true; the input reads as it did. -/
def guardNeedsSpec : ChangeSpec := { name := "guardNeeds", fn := fun _ => fun
  | [d1, d2, d3] => { results := [.lit (.bool true)], args := [d1, d2, d3] }
  | _ => none }
def guardNeedsRow : OpenClaim := { program := "ytpbbkfekibmaiaadoor", sum := "87f2deb1dcf310454765d042967a745caa94699f26a6effb3b05355be8aab1d2", func := "alibi/alibilaw17.GuardNeeds", spec := "guardNeeds", named := ["math/bits.deBruijn32tab"], apart := false, laid := [("math/bits.deBruijn32tab", laid_math_bits_deBruijn32tab)] }
def GuardNeedsSaid : Prop := guardNeedsRow.holds Tryd.pinned (OpenSpec.ofChange guardNeedsSpec)

/-- ITS FALSE NEIGHBOUR: 'it returns false'. Refute it at one input. -/
def guardNeedsWrong : ChangeSpec := { name := "guardNeeds", fn := fun _ => fun
  | [d1, d2, d3] => { results := [.lit (.bool false)], args := [d1, d2, d3] }
  | _ => none }
def GuardNeedsWrongFalsely : Prop := guardNeedsRow.holds Tryd.pinned (OpenSpec.ofChange guardNeedsWrong)

/-- 'alibilaw17.GuardMore': WHATEVER THE INPUT: true; the input reads as it did. -/
def guardMoreSpec : ChangeSpec := { name := "guardMore", fn := fun _ => fun
  | [d1, d2, d3, d4, d5] => { results := [.lit (.bool true)], args := [d1, d2, d3, d4, d5] }
  | _ => none }
def guardMoreRow : OpenClaim := { program := "ytpbbkfekibmaiaadoor", sum := "87f2deb1dcf310454765d042967a745caa94699f26a6effb3b05355be8aab1d2", func := "alibi/alibilaw17.GuardMore", spec := "guardMore", named := ["math/bits.deBruijn32tab"], apart := false, laid := [("math/bits.deBruijn32tab", laid_math_bits_deBruijn32tab)] }
def GuardMoreSaid : Prop := guardMoreRow.holds Tryd.pinned (OpenSpec.ofChange guardMoreSpec)

/-- ITS FALSE NEIGHBOUR: 'it returns false'. Refute it at one input. -/
def guardMoreWrong : ChangeSpec := { name := "guardMore", fn := fun _ => fun
  | [d1, d2, d3, d4, d5] => { results := [.lit (.bool false)], args := [d1, d2, d3, d4, d5] }
  | _ => none }
def GuardMoreWrongFalsely : Prop := guardMoreRow.holds Tryd.pinned (OpenSpec.ofChange guardMoreWrong)

/-- 'alibilaw17.GuardHolds': WHATEVER THE INPUT: true; the input reads as it did. -/
def guardHoldsSpec : ChangeSpec := { name := "guardHolds", fn := fun _ => fun
  | [d1, d2, d3, d4, d5] => { results := [.lit (.bool true)], args := [d1, d2, d3, d4, d5] }
  | _ => none }
def guardHoldsRow : OpenClaim := { program := "ytpbbkfekibmaiaadoor", sum := "87f2deb1dcf310454765d042967a745caa94699f26a6effb3b05355be8aab1d2", func := "alibi/alibilaw17.GuardHolds", spec := "guardHolds", named := ["math/bits.deBruijn32tab"], apart := false, laid := [("math/bits.deBruijn32tab", laid_math_bits_deBruijn32tab)] }
def GuardHoldsSaid : Prop := guardHoldsRow.holds Tryd.pinned (OpenSpec.ofChange guardHoldsSpec)

/-- ITS FALSE NEIGHBOUR: 'it returns false'. Refute it at one input. -/
def guardHoldsWrong : ChangeSpec := { name := "guardHolds", fn := fun _ => fun
  | [d1, d2, d3, d4, d5] => { results := [.lit (.bool false)], args := [d1, d2, d3, d4, d5] }
  | _ => none }
def GuardHoldsWrongFalsely : Prop := guardHoldsRow.holds Tryd.pinned (OpenSpec.ofChange guardHoldsWrong)

/-- 'alibilaw17.GuardChecks': WHATEVER THE INPUT: true; the input reads as it did. -/
def guardChecksSpec : ChangeSpec := { name := "guardChecks", fn := fun _ => fun
  | [d1, d2, d3] => { results := [.lit (.bool true)], args := [d1, d2, d3] }
  | _ => none }
def guardChecksRow : OpenClaim := { program := "ytpbbkfekibmaiaadoor", sum := "87f2deb1dcf310454765d042967a745caa94699f26a6effb3b05355be8aab1d2", func := "alibi/alibilaw17.GuardChecks", spec := "guardChecks", recurses := true, named := ["math/bits.deBruijn32tab"], apart := false, laid := [("math/bits.deBruijn32tab", laid_math_bits_deBruijn32tab)] }
def GuardChecksSaid : Prop := guardChecksRow.holds Tryd.pinned (OpenSpec.ofChange guardChecksSpec)

/-- ITS FALSE NEIGHBOUR: 'it returns false'. Refute it at one input. -/
def guardChecksWrong : ChangeSpec := { name := "guardChecks", fn := fun _ => fun
  | [d1, d2, d3] => { results := [.lit (.bool false)], args := [d1, d2, d3] }
  | _ => none }
def GuardChecksWrongFalsely : Prop := guardChecksRow.holds Tryd.pinned (OpenSpec.ofChange guardChecksWrong)

/-- 'alibilaw17.GuardAll': WHATEVER THE INPUT: true; the input reads as it did. -/
def guardAllSpec : ChangeSpec := { name := "guardAll", fn := fun _ => fun
  | [d1, d2, d3] => { results := [.lit (.bool true)], args := [d1, d2, d3] }
  | _ => none }
def guardAllRow : OpenClaim := { program := "ytpbbkfekibmaiaadoor", sum := "87f2deb1dcf310454765d042967a745caa94699f26a6effb3b05355be8aab1d2", func := "alibi/alibilaw17.GuardAll", spec := "guardAll", recurses := true, named := ["math/bits.deBruijn32tab"], apart := false, laid := [("math/bits.deBruijn32tab", laid_math_bits_deBruijn32tab)] }
def GuardAllSaid : Prop := guardAllRow.holds Tryd.pinned (OpenSpec.ofChange guardAllSpec)

/-- ITS FALSE NEIGHBOUR: 'it returns false'. Refute it at one input. -/
def guardAllWrong : ChangeSpec := { name := "guardAll", fn := fun _ => fun
  | [d1, d2, d3] => { results := [.lit (.bool false)], args := [d1, d2, d3] }
  | _ => none }
def GuardAllWrongFalsely : Prop := guardAllRow.holds Tryd.pinned (OpenSpec.ofChange guardAllWrong)

/- THE SECOND FORM. 'bulk': how many values and letters a reading holds, each counted each time it is reached (what is shared counts as often as it is met; a slice's spare places count too). A statement '..UptoSaid' is the law's where the arguments, and the package variables that the reading takes, are together of bulk at most 1048576: NARROWER than '..Said'. Prove '..Said' where nothing that the law and all that it calls make is longer than what came in: it says more and counts as full. Else prove '..UptoSaid'. A law counts once. -/
mutual
def uptoBulk {H : Type} : DataW H → Nat
  | .lit (.string bytes) => bytes.length + 1
  | .lit _ => 1
  | .nil => 1
  | .ptr d => uptoBulk d + 1
  | .slice elems spare => uptoBulkAll elems + uptoBulkAll spare + 1
  | .agg parts => uptoBulkAll parts + 1
  | .iface _ d => uptoBulk d + 1
  | .map entries => uptoBulkEntries entries + 1
  | .held _ => 1
def uptoBulkAll {H : Type} : List (DataW H) → Nat
  | [] => 0
  | d :: r => uptoBulk d + uptoBulkAll r
def uptoBulkEntries {H : Type} : List (Lit × DataW H) → Nat
  | [] => 0
  | x :: r => uptoBulkEntry x + uptoBulkEntries r
def uptoBulkEntry {H : Type} : Lit × DataW H → Nat
  | (.string bytes, d) => bytes.length + uptoBulk d + 1
  | (_, d) => uptoBulk d + 1
 end
def uptoSmall : (H : Type) → List (DataW H) → Bool := fun _ ds => decide (uptoBulkAll ds ≤ 1048576)
def OpenSpec.upto (s : _root_.Go.ChangeSpec) : _root_.Go.OpenSpec := { _root_.Go.OpenSpec.ofChange s with cond := some uptoSmall }

/-- 'alibilaw17.GuardBest', WHERE WHAT IT READS IS OF BULK AT MOST 1048576: true; the input reads as it did. -/
def guardBestUptoRow : OpenClaim := { program := "ytpbbkfekibmaiaadoor", sum := "87f2deb1dcf310454765d042967a745caa94699f26a6effb3b05355be8aab1d2", func := "alibi/alibilaw17.GuardBest", spec := "guardBest", named := ["math/bits.deBruijn32tab"], apart := false, laid := [("math/bits.deBruijn32tab", laid_math_bits_deBruijn32tab)], narrowed := true }
def GuardBestUptoSaid : Prop := guardBestUptoRow.holds Tryd.pinned (OpenSpec.upto guardBestSpec)

/-- 'alibilaw17.GuardNeeds', WHERE WHAT IT READS IS OF BULK AT MOST 1048576: true; the input reads as it did. -/
def guardNeedsUptoRow : OpenClaim := { program := "ytpbbkfekibmaiaadoor", sum := "87f2deb1dcf310454765d042967a745caa94699f26a6effb3b05355be8aab1d2", func := "alibi/alibilaw17.GuardNeeds", spec := "guardNeeds", named := ["math/bits.deBruijn32tab"], apart := false, laid := [("math/bits.deBruijn32tab", laid_math_bits_deBruijn32tab)], narrowed := true }
def GuardNeedsUptoSaid : Prop := guardNeedsUptoRow.holds Tryd.pinned (OpenSpec.upto guardNeedsSpec)

/-- 'alibilaw17.GuardMore', WHERE WHAT IT READS IS OF BULK AT MOST 1048576: true; the input reads as it did. -/
def guardMoreUptoRow : OpenClaim := { program := "ytpbbkfekibmaiaadoor", sum := "87f2deb1dcf310454765d042967a745caa94699f26a6effb3b05355be8aab1d2", func := "alibi/alibilaw17.GuardMore", spec := "guardMore", named := ["math/bits.deBruijn32tab"], apart := false, laid := [("math/bits.deBruijn32tab", laid_math_bits_deBruijn32tab)], narrowed := true }
def GuardMoreUptoSaid : Prop := guardMoreUptoRow.holds Tryd.pinned (OpenSpec.upto guardMoreSpec)

/-- 'alibilaw17.GuardHolds', WHERE WHAT IT READS IS OF BULK AT MOST 1048576: true; the input reads as it did. -/
def guardHoldsUptoRow : OpenClaim := { program := "ytpbbkfekibmaiaadoor", sum := "87f2deb1dcf310454765d042967a745caa94699f26a6effb3b05355be8aab1d2", func := "alibi/alibilaw17.GuardHolds", spec := "guardHolds", named := ["math/bits.deBruijn32tab"], apart := false, laid := [("math/bits.deBruijn32tab", laid_math_bits_deBruijn32tab)], narrowed := true }
def GuardHoldsUptoSaid : Prop := guardHoldsUptoRow.holds Tryd.pinned (OpenSpec.upto guardHoldsSpec)

/-- 'alibilaw17.GuardChecks', WHERE WHAT IT READS IS OF BULK AT MOST 1048576: true; the input reads as it did. -/
def guardChecksUptoRow : OpenClaim := { program := "ytpbbkfekibmaiaadoor", sum := "87f2deb1dcf310454765d042967a745caa94699f26a6effb3b05355be8aab1d2", func := "alibi/alibilaw17.GuardChecks", spec := "guardChecks", recurses := true, named := ["math/bits.deBruijn32tab"], apart := false, laid := [("math/bits.deBruijn32tab", laid_math_bits_deBruijn32tab)], narrowed := true }
def GuardChecksUptoSaid : Prop := guardChecksUptoRow.holds Tryd.pinned (OpenSpec.upto guardChecksSpec)

/-- 'alibilaw17.GuardAll', WHERE WHAT IT READS IS OF BULK AT MOST 1048576: true; the input reads as it did. -/
def guardAllUptoRow : OpenClaim := { program := "ytpbbkfekibmaiaadoor", sum := "87f2deb1dcf310454765d042967a745caa94699f26a6effb3b05355be8aab1d2", func := "alibi/alibilaw17.GuardAll", spec := "guardAll", recurses := true, named := ["math/bits.deBruijn32tab"], apart := false, laid := [("math/bits.deBruijn32tab", laid_math_bits_deBruijn32tab)], narrowed := true }
def GuardAllUptoSaid : Prop := guardAllUptoRow.holds Tryd.pinned (OpenSpec.upto guardAllSpec)

end Rows
end Go.Proofs.YtpbbkfekibmaiaaDoor
