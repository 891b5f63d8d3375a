/-
  No cell of these rows narrows 'for every input' (looked for: loops, veiled, ifaces, maps, wideKeys, modest, calm, conditions, laid).
  DERIVED. THE GIVEN ROWS OF THIS SEAT. 6 by the template 'for every input the law returns true; each argument reads behind the call as it read before'; 0 by the template 'total and deterministic' (their statements: YtpbbkfekibmaiaaTotals.lean).
  GIVEN WITH THE SEED: the statements are not yours to turn. If you find one false, say at which input.
  Laid BY PROGRAM, IN A SANDBOX (cutbox-rows.mjs): the forced cells as the released guide's own fill.sh prints them over the translation 2cc73775cc01a6c1… (all of the seat's roots in one cut). By AI agents, Wed Nov 11 2026. No macro, syntax, notation, axiom, sorry.
-/
import Derived.Test.YtpbbkfekibmaiaaChecked
import GoSem.Claim
import GoSem.ClaimJoined
import GoSem.ClaimMapViews
import Derived.JoinedTies
import Derived.KernelRfl
namespace Go.Proofs.Ytpbbkfekibmaiaa
/- THE CELL 'sum', in the pinned program and in every row, IS THE sha256 OF THE DUMP (.gsa) THAT YtpbbkfekibmaiaaProg.lean LOADS. Nothing in Lean hashes anything: it is a label: what it is worth is what the hold of that sum in a sandbox is worth. -/
noncomputable def Try.pinned : Pinned := { name := "ytpbbkfekibmaiaa", sum := "2cc73775cc01a6c11cb89f3b1f5633d88acaf669cab647357de1ff1c06ccb29d", checked := Try.checked }
namespace Rows
def none {H : Type} : Left H := { results := [], args := [] }

/-- 'alibilaw05.ProgChecks': WHATEVER THE INPUT: true; the input reads as it did. -/
def progChecksSpec : ChangeSpec := { name := "progChecks", fn := fun _ => fun
  | [d] => { results := [.lit (.bool true)], args := [d] }
  | _ => none }
def progChecksRow : OpenClaim := { program := "ytpbbkfekibmaiaa", sum := "2cc73775cc01a6c11cb89f3b1f5633d88acaf669cab647357de1ff1c06ccb29d", func := "alibi/alibilaw05.ProgChecks", spec := "progChecks", recurses := true, apart := false }
def ProgChecksSaid : Prop := progChecksRow.holds Try.pinned (OpenSpec.ofChange progChecksSpec)

/-- ITS FALSE NEIGHBOUR: 'it returns false'. Refute it at one input. -/
def progChecksWrong : ChangeSpec := { name := "progChecks", fn := fun _ => fun
  | [d] => { results := [.lit (.bool false)], args := [d] }
  | _ => none }
def ProgChecksWrongFalsely : Prop := progChecksRow.holds Try.pinned (OpenSpec.ofChange progChecksWrong)

/-- 'alibilaw05.ProgOrder': WHATEVER THE INPUT: true; the input reads as it did. -/
def progOrderSpec : ChangeSpec := { name := "progOrder", fn := fun _ => fun
  | [d] => { results := [.lit (.bool true)], args := [d] }
  | _ => none }
def progOrderRow : OpenClaim := { program := "ytpbbkfekibmaiaa", sum := "2cc73775cc01a6c11cb89f3b1f5633d88acaf669cab647357de1ff1c06ccb29d", func := "alibi/alibilaw05.ProgOrder", spec := "progOrder", recurses := true, apart := false }
def ProgOrderSaid : Prop := progOrderRow.holds Try.pinned (OpenSpec.ofChange progOrderSpec)

/-- ITS FALSE NEIGHBOUR: 'it returns false'. Refute it at one input. -/
def progOrderWrong : ChangeSpec := { name := "progOrder", fn := fun _ => fun
  | [d] => { results := [.lit (.bool false)], args := [d] }
  | _ => none }
def ProgOrderWrongFalsely : Prop := progOrderRow.holds Try.pinned (OpenSpec.ofChange progOrderWrong)

/-- 'alibilaw05.ProgFront': WHATEVER THE INPUT: true; the input reads as it did. -/
def progFrontSpec : ChangeSpec := { name := "progFront", fn := fun _ => fun
  | [d1, d2, d3, d4] => { results := [.lit (.bool true)], args := [d1, d2, d3, d4] }
  | _ => none }
def progFrontRow : OpenClaim := { program := "ytpbbkfekibmaiaa", sum := "2cc73775cc01a6c11cb89f3b1f5633d88acaf669cab647357de1ff1c06ccb29d", func := "alibi/alibilaw05.ProgFront", spec := "progFront", recurses := true, apart := false }
def ProgFrontSaid : Prop := progFrontRow.holds Try.pinned (OpenSpec.ofChange progFrontSpec)

/-- ITS FALSE NEIGHBOUR: 'it returns false'. Refute it at one input. -/
def progFrontWrong : ChangeSpec := { name := "progFront", fn := fun _ => fun
  | [d1, d2, d3, d4] => { results := [.lit (.bool false)], args := [d1, d2, d3, d4] }
  | _ => none }
def ProgFrontWrongFalsely : Prop := progFrontRow.holds Try.pinned (OpenSpec.ofChange progFrontWrong)

/-- 'alibilaw05.ProgGoes': WHATEVER THE INPUT: true; the input reads as it did. -/
def progGoesSpec : ChangeSpec := { name := "progGoes", fn := fun _ => fun
  | [d] => { results := [.lit (.bool true)], args := [d] }
  | _ => none }
def progGoesRow : OpenClaim := { program := "ytpbbkfekibmaiaa", sum := "2cc73775cc01a6c11cb89f3b1f5633d88acaf669cab647357de1ff1c06ccb29d", func := "alibi/alibilaw05.ProgGoes", spec := "progGoes", recurses := true, apart := false }
def ProgGoesSaid : Prop := progGoesRow.holds Try.pinned (OpenSpec.ofChange progGoesSpec)

/-- ITS FALSE NEIGHBOUR: 'it returns false'. Refute it at one input. -/
def progGoesWrong : ChangeSpec := { name := "progGoes", fn := fun _ => fun
  | [d] => { results := [.lit (.bool false)], args := [d] }
  | _ => none }
def ProgGoesWrongFalsely : Prop := progGoesRow.holds Try.pinned (OpenSpec.ofChange progGoesWrong)

/-- 'alibilaw05.ProgMay': WHATEVER THE INPUT: true; the input reads as it did. -/
def progMaySpec : ChangeSpec := { name := "progMay", fn := fun _ => fun
  | [d1, d2, d3] => { results := [.lit (.bool true)], args := [d1, d2, d3] }
  | _ => none }
def progMayRow : OpenClaim := { program := "ytpbbkfekibmaiaa", sum := "2cc73775cc01a6c11cb89f3b1f5633d88acaf669cab647357de1ff1c06ccb29d", func := "alibi/alibilaw05.ProgMay", spec := "progMay", recurses := true, apart := false }
def ProgMaySaid : Prop := progMayRow.holds Try.pinned (OpenSpec.ofChange progMaySpec)

/-- ITS FALSE NEIGHBOUR: 'it returns false'. Refute it at one input. -/
def progMayWrong : ChangeSpec := { name := "progMay", fn := fun _ => fun
  | [d1, d2, d3] => { results := [.lit (.bool false)], args := [d1, d2, d3] }
  | _ => none }
def ProgMayWrongFalsely : Prop := progMayRow.holds Try.pinned (OpenSpec.ofChange progMayWrong)

/-- 'alibilaw05.ProgSame': WHATEVER THE INPUT: true; the input reads as it did. -/
def progSameSpec : ChangeSpec := { name := "progSame", fn := fun _ => fun
  | [d1, d2] => { results := [.lit (.bool true)], args := [d1, d2] }
  | _ => none }
def progSameRow : OpenClaim := { program := "ytpbbkfekibmaiaa", sum := "2cc73775cc01a6c11cb89f3b1f5633d88acaf669cab647357de1ff1c06ccb29d", func := "alibi/alibilaw05.ProgSame", spec := "progSame", recurses := true, apart := false }
def ProgSameSaid : Prop := progSameRow.holds Try.pinned (OpenSpec.ofChange progSameSpec)

/-- ITS FALSE NEIGHBOUR: 'it returns false'. Refute it at one input. -/
def progSameWrong : ChangeSpec := { name := "progSame", fn := fun _ => fun
  | [d1, d2] => { results := [.lit (.bool false)], args := [d1, d2] }
  | _ => none }
def ProgSameWrongFalsely : Prop := progSameRow.holds Try.pinned (OpenSpec.ofChange progSameWrong)

/- THE SECOND FORM. 'bulk': how many values and letters a reading holds, each counted each time it is reached (what is shared counts as often as it is met; a slice's spare places count too). A statement '..UptoSaid' is the law's where the arguments, and the package variables that the reading takes, are together of bulk at most 1048576: NARROWER than '..Said'. Prove '..Said' where nothing that the law and all that it calls make is longer than what came in: it says more and counts as full. Else prove '..UptoSaid'. A law counts once. -/
mutual
def uptoBulk {H : Type} : DataW H → Nat
  | .lit (.string bytes) => bytes.length + 1
  | .lit _ => 1
  | .nil => 1
  | .ptr d => uptoBulk d + 1
  | .slice elems spare => uptoBulkAll elems + uptoBulkAll spare + 1
  | .agg parts => uptoBulkAll parts + 1
  | .iface _ d => uptoBulk d + 1
  | .map entries => uptoBulkEntries entries + 1
  | .held _ => 1
def uptoBulkAll {H : Type} : List (DataW H) → Nat
  | [] => 0
  | d :: r => uptoBulk d + uptoBulkAll r
def uptoBulkEntries {H : Type} : List (Lit × DataW H) → Nat
  | [] => 0
  | x :: r => uptoBulkEntry x + uptoBulkEntries r
def uptoBulkEntry {H : Type} : Lit × DataW H → Nat
  | (.string bytes, d) => bytes.length + uptoBulk d + 1
  | (_, d) => uptoBulk d + 1
 end
def uptoSmall : (H : Type) → List (DataW H) → Bool := fun _ ds => decide (uptoBulkAll ds ≤ 1048576)
def OpenSpec.upto (s : _root_.Go.ChangeSpec) : _root_.Go.OpenSpec := { _root_.Go.OpenSpec.ofChange s with cond := some uptoSmall }

/-- 'alibilaw05.ProgChecks', WHERE WHAT IT READS IS OF BULK AT MOST 1048576: true; the input reads as it did. -/
def progChecksUptoRow : OpenClaim := { program := "ytpbbkfekibmaiaa", sum := "2cc73775cc01a6c11cb89f3b1f5633d88acaf669cab647357de1ff1c06ccb29d", func := "alibi/alibilaw05.ProgChecks", spec := "progChecks", recurses := true, apart := false, narrowed := true }
def ProgChecksUptoSaid : Prop := progChecksUptoRow.holds Try.pinned (OpenSpec.upto progChecksSpec)

/-- 'alibilaw05.ProgOrder', WHERE WHAT IT READS IS OF BULK AT MOST 1048576: true; the input reads as it did. -/
def progOrderUptoRow : OpenClaim := { program := "ytpbbkfekibmaiaa", sum := "2cc73775cc01a6c11cb89f3b1f5633d88acaf669cab647357de1ff1c06ccb29d", func := "alibi/alibilaw05.ProgOrder", spec := "progOrder", recurses := true, apart := false, narrowed := true }
def ProgOrderUptoSaid : Prop := progOrderUptoRow.holds Try.pinned (OpenSpec.upto progOrderSpec)

/-- 'alibilaw05.ProgFront', WHERE WHAT IT READS IS OF BULK AT MOST 1048576: true; the input reads as it did. -/
def progFrontUptoRow : OpenClaim := { program := "ytpbbkfekibmaiaa", sum := "2cc73775cc01a6c11cb89f3b1f5633d88acaf669cab647357de1ff1c06ccb29d", func := "alibi/alibilaw05.ProgFront", spec := "progFront", recurses := true, apart := false, narrowed := true }
def ProgFrontUptoSaid : Prop := progFrontUptoRow.holds Try.pinned (OpenSpec.upto progFrontSpec)

/-- 'alibilaw05.ProgGoes', WHERE WHAT IT READS IS OF BULK AT MOST 1048576: true; the input reads as it did. -/
def progGoesUptoRow : OpenClaim := { program := "ytpbbkfekibmaiaa", sum := "2cc73775cc01a6c11cb89f3b1f5633d88acaf669cab647357de1ff1c06ccb29d", func := "alibi/alibilaw05.ProgGoes", spec := "progGoes", recurses := true, apart := false, narrowed := true }
def ProgGoesUptoSaid : Prop := progGoesUptoRow.holds Try.pinned (OpenSpec.upto progGoesSpec)

/-- 'alibilaw05.ProgMay', WHERE WHAT IT READS IS OF BULK AT MOST 1048576: true; the input reads as it did. -/
def progMayUptoRow : OpenClaim := { program := "ytpbbkfekibmaiaa", sum := "2cc73775cc01a6c11cb89f3b1f5633d88acaf669cab647357de1ff1c06ccb29d", func := "alibi/alibilaw05.ProgMay", spec := "progMay", recurses := true, apart := false, narrowed := true }
def ProgMayUptoSaid : Prop := progMayUptoRow.holds Try.pinned (OpenSpec.upto progMaySpec)

/-- 'alibilaw05.ProgSame', WHERE WHAT IT READS IS OF BULK AT MOST 1048576: true; the input reads as it did. -/
def progSameUptoRow : OpenClaim := { program := "ytpbbkfekibmaiaa", sum := "2cc73775cc01a6c11cb89f3b1f5633d88acaf669cab647357de1ff1c06ccb29d", func := "alibi/alibilaw05.ProgSame", spec := "progSame", recurses := true, apart := false, narrowed := true }
def ProgSameUptoSaid : Prop := progSameUptoRow.holds Try.pinned (OpenSpec.upto progSameSpec)

end Rows
end Go.Proofs.Ytpbbkfekibmaiaa
