/-
  No cell of these rows narrows 'for every input' (looked for: loops, veiled, ifaces, maps, wideKeys, modest, calm, conditions, laid).
  DERIVED. THE GIVEN ROWS OF THIS SEAT. 7 by the template 'for every input the law returns true; each argument reads behind the call as it read before'; 0 by the template 'total and deterministic' (their statements: YtdbmfnhbgacldaaTotals.lean).
  GIVEN WITH THE SEED: the statements are not yours to turn. If you find one false, say at which input.
  Laid BY PROGRAM, IN A SANDBOX (cutbox-rows.mjs): the forced cells as the released guide's own fill.sh prints them over the translation 7009705a19703607… (all of the seat's roots in one cut). By AI agents, Wed Nov 11 2026. No macro, syntax, notation, axiom, sorry.
-/
import Derived.Test.YtdbmfnhbgacldaaChecked
import GoSem.Claim
import GoSem.ClaimJoined
import GoSem.ClaimMapViews
import Derived.JoinedTies
import Derived.KernelRfl
namespace Go.Proofs.Ytdbmfnhbgacldaa
/- THE CELL 'sum', in the pinned program and in every row, IS THE sha256 OF THE DUMP (.gsa) THAT YtdbmfnhbgacldaaProg.lean LOADS. Nothing in Lean hashes anything: it is a label: what it is worth is what the hold of that sum in a sandbox is worth. -/
noncomputable def Try.pinned : Pinned := { name := "ytdbmfnhbgacldaa", sum := "7009705a19703607e1ef061904e446494c1e05c151342e5f6544cd2b4a23196d", checked := Try.checked }
namespace Rows
def none {H : Type} : Left H := { results := [], args := [] }

/-- 'alibilaw13.WitWrites': WHATEVER THE INPUT: true; the input reads as it did. -/
def witWritesSpec : ChangeSpec := { name := "witWrites", fn := fun _ => fun
  | [d] => { results := [.lit (.bool true)], args := [d] }
  | _ => none }
def witWritesRow : OpenClaim := { program := "ytdbmfnhbgacldaa", sum := "7009705a19703607e1ef061904e446494c1e05c151342e5f6544cd2b4a23196d", func := "alibi/alibilaw13.WitWrites", spec := "witWrites", recurses := true, apart := false }
def WitWritesSaid : Prop := witWritesRow.holds Try.pinned (OpenSpec.ofChange witWritesSpec)

/-- ITS FALSE NEIGHBOUR: 'it returns false'. Refute it at one input. -/
def witWritesWrong : ChangeSpec := { name := "witWrites", fn := fun _ => fun
  | [d] => { results := [.lit (.bool false)], args := [d] }
  | _ => none }
def WitWritesWrongFalsely : Prop := witWritesRow.holds Try.pinned (OpenSpec.ofChange witWritesWrong)

/-- 'alibilaw07.PcodeAlike': WHATEVER THE INPUT: true; the input reads as it did. -/
def pcodeAlikeSpec : ChangeSpec := { name := "pcodeAlike", fn := fun _ => fun
  | [d1, d2] => { results := [.lit (.bool true)], args := [d1, d2] }
  | _ => none }
def pcodeAlikeRow : OpenClaim := { program := "ytdbmfnhbgacldaa", sum := "7009705a19703607e1ef061904e446494c1e05c151342e5f6544cd2b4a23196d", func := "alibi/alibilaw07.PcodeAlike", spec := "pcodeAlike", recurses := true, apart := false }
def PcodeAlikeSaid : Prop := pcodeAlikeRow.holds Try.pinned (OpenSpec.ofChange pcodeAlikeSpec)

/-- ITS FALSE NEIGHBOUR: 'it returns false'. Refute it at one input. -/
def pcodeAlikeWrong : ChangeSpec := { name := "pcodeAlike", fn := fun _ => fun
  | [d1, d2] => { results := [.lit (.bool false)], args := [d1, d2] }
  | _ => none }
def PcodeAlikeWrongFalsely : Prop := pcodeAlikeRow.holds Try.pinned (OpenSpec.ofChange pcodeAlikeWrong)

/-- 'alibilaw13.WitReads': WHATEVER THE INPUT: true; the input reads as it did. -/
def witReadsSpec : ChangeSpec := { name := "witReads", fn := fun _ => fun
  | [d] => { results := [.lit (.bool true)], args := [d] }
  | _ => none }
def witReadsRow : OpenClaim := { program := "ytdbmfnhbgacldaa", sum := "7009705a19703607e1ef061904e446494c1e05c151342e5f6544cd2b4a23196d", func := "alibi/alibilaw13.WitReads", spec := "witReads", apart := false }
def WitReadsSaid : Prop := witReadsRow.holds Try.pinned (OpenSpec.ofChange witReadsSpec)

/-- ITS FALSE NEIGHBOUR: 'it returns false'. Refute it at one input. -/
def witReadsWrong : ChangeSpec := { name := "witReads", fn := fun _ => fun
  | [d] => { results := [.lit (.bool false)], args := [d] }
  | _ => none }
def WitReadsWrongFalsely : Prop := witReadsRow.holds Try.pinned (OpenSpec.ofChange witReadsWrong)

/-- 'alibilaw13.WitBack': WHATEVER THE INPUT: true; the input reads as it did. -/
def witBackSpec : ChangeSpec := { name := "witBack", fn := fun _ => fun
  | [d1, d2, d3] => { results := [.lit (.bool true)], args := [d1, d2, d3] }
  | _ => none }
def witBackRow : OpenClaim := { program := "ytdbmfnhbgacldaa", sum := "7009705a19703607e1ef061904e446494c1e05c151342e5f6544cd2b4a23196d", func := "alibi/alibilaw13.WitBack", spec := "witBack", apart := false }
def WitBackSaid : Prop := witBackRow.holds Try.pinned (OpenSpec.ofChange witBackSpec)

/-- ITS FALSE NEIGHBOUR: 'it returns false'. Refute it at one input. -/
def witBackWrong : ChangeSpec := { name := "witBack", fn := fun _ => fun
  | [d1, d2, d3] => { results := [.lit (.bool false)], args := [d1, d2, d3] }
  | _ => none }
def WitBackWrongFalsely : Prop := witBackRow.holds Try.pinned (OpenSpec.ofChange witBackWrong)

/-- 'alibilaw07.PcodeReads': WHATEVER THE INPUT: true; the input reads as it did. -/
def pcodeReadsSpec : ChangeSpec := { name := "pcodeReads", fn := fun _ => fun
  | [d] => { results := [.lit (.bool true)], args := [d] }
  | _ => none }
def pcodeReadsRow : OpenClaim := { program := "ytdbmfnhbgacldaa", sum := "7009705a19703607e1ef061904e446494c1e05c151342e5f6544cd2b4a23196d", func := "alibi/alibilaw07.PcodeReads", spec := "pcodeReads", recurses := true, apart := false }
def PcodeReadsSaid : Prop := pcodeReadsRow.holds Try.pinned (OpenSpec.ofChange pcodeReadsSpec)

/-- ITS FALSE NEIGHBOUR: 'it returns false'. Refute it at one input. -/
def pcodeReadsWrong : ChangeSpec := { name := "pcodeReads", fn := fun _ => fun
  | [d] => { results := [.lit (.bool false)], args := [d] }
  | _ => none }
def PcodeReadsWrongFalsely : Prop := pcodeReadsRow.holds Try.pinned (OpenSpec.ofChange pcodeReadsWrong)

/-- 'alibilaw07.PcodeBack': WHATEVER THE INPUT: true; the input reads as it did. -/
def pcodeBackSpec : ChangeSpec := { name := "pcodeBack", fn := fun _ => fun
  | [d1, d2, d3] => { results := [.lit (.bool true)], args := [d1, d2, d3] }
  | _ => none }
def pcodeBackRow : OpenClaim := { program := "ytdbmfnhbgacldaa", sum := "7009705a19703607e1ef061904e446494c1e05c151342e5f6544cd2b4a23196d", func := "alibi/alibilaw07.PcodeBack", spec := "pcodeBack", recurses := true, apart := false }
def PcodeBackSaid : Prop := pcodeBackRow.holds Try.pinned (OpenSpec.ofChange pcodeBackSpec)

/-- ITS FALSE NEIGHBOUR: 'it returns false'. Refute it at one input. -/
def pcodeBackWrong : ChangeSpec := { name := "pcodeBack", fn := fun _ => fun
  | [d1, d2, d3] => { results := [.lit (.bool false)], args := [d1, d2, d3] }
  | _ => none }
def PcodeBackWrongFalsely : Prop := pcodeBackRow.holds Try.pinned (OpenSpec.ofChange pcodeBackWrong)

/-- 'alibilaw07.PcodeOnce': WHATEVER THE INPUT: true; the input reads as it did. -/
def pcodeOnceSpec : ChangeSpec := { name := "pcodeOnce", fn := fun _ => fun
  | [d] => { results := [.lit (.bool true)], args := [d] }
  | _ => none }
def pcodeOnceRow : OpenClaim := { program := "ytdbmfnhbgacldaa", sum := "7009705a19703607e1ef061904e446494c1e05c151342e5f6544cd2b4a23196d", func := "alibi/alibilaw07.PcodeOnce", spec := "pcodeOnce", recurses := true, apart := false }
def PcodeOnceSaid : Prop := pcodeOnceRow.holds Try.pinned (OpenSpec.ofChange pcodeOnceSpec)

/-- ITS FALSE NEIGHBOUR: 'it returns false'. Refute it at one input. -/
def pcodeOnceWrong : ChangeSpec := { name := "pcodeOnce", fn := fun _ => fun
  | [d] => { results := [.lit (.bool false)], args := [d] }
  | _ => none }
def PcodeOnceWrongFalsely : Prop := pcodeOnceRow.holds Try.pinned (OpenSpec.ofChange pcodeOnceWrong)

/- THE SECOND FORM. 'bulk': how many values and letters a reading holds, each counted each time it is reached (what is shared counts as often as it is met; a slice's spare places count too). A statement '..UptoSaid' is the law's where the arguments, and the package variables that the reading takes, are together of bulk at most 1048576: NARROWER than '..Said'. Prove '..Said' where nothing that the law and all that it calls make is longer than what came in: it says more and counts as full. Else prove '..UptoSaid'. A law counts once. -/
mutual
def uptoBulk {H : Type} : DataW H → Nat
  | .lit (.string bytes) => bytes.length + 1
  | .lit _ => 1
  | .nil => 1
  | .ptr d => uptoBulk d + 1
  | .slice elems spare => uptoBulkAll elems + uptoBulkAll spare + 1
  | .agg parts => uptoBulkAll parts + 1
  | .iface _ d => uptoBulk d + 1
  | .map entries => uptoBulkEntries entries + 1
  | .held _ => 1
def uptoBulkAll {H : Type} : List (DataW H) → Nat
  | [] => 0
  | d :: r => uptoBulk d + uptoBulkAll r
def uptoBulkEntries {H : Type} : List (Lit × DataW H) → Nat
  | [] => 0
  | x :: r => uptoBulkEntry x + uptoBulkEntries r
def uptoBulkEntry {H : Type} : Lit × DataW H → Nat
  | (.string bytes, d) => bytes.length + uptoBulk d + 1
  | (_, d) => uptoBulk d + 1
 end
def uptoSmall : (H : Type) → List (DataW H) → Bool := fun _ ds => decide (uptoBulkAll ds ≤ 1048576)
def OpenSpec.upto (s : _root_.Go.ChangeSpec) : _root_.Go.OpenSpec := { _root_.Go.OpenSpec.ofChange s with cond := some uptoSmall }

/-- 'alibilaw13.WitWrites', WHERE WHAT IT READS IS OF BULK AT MOST 1048576: true; the input reads as it did. -/
def witWritesUptoRow : OpenClaim := { program := "ytdbmfnhbgacldaa", sum := "7009705a19703607e1ef061904e446494c1e05c151342e5f6544cd2b4a23196d", func := "alibi/alibilaw13.WitWrites", spec := "witWrites", recurses := true, apart := false, narrowed := true }
def WitWritesUptoSaid : Prop := witWritesUptoRow.holds Try.pinned (OpenSpec.upto witWritesSpec)

/-- 'alibilaw07.PcodeAlike', WHERE WHAT IT READS IS OF BULK AT MOST 1048576: true; the input reads as it did. -/
def pcodeAlikeUptoRow : OpenClaim := { program := "ytdbmfnhbgacldaa", sum := "7009705a19703607e1ef061904e446494c1e05c151342e5f6544cd2b4a23196d", func := "alibi/alibilaw07.PcodeAlike", spec := "pcodeAlike", recurses := true, apart := false, narrowed := true }
def PcodeAlikeUptoSaid : Prop := pcodeAlikeUptoRow.holds Try.pinned (OpenSpec.upto pcodeAlikeSpec)

/-- 'alibilaw13.WitReads', WHERE WHAT IT READS IS OF BULK AT MOST 1048576: true; the input reads as it did. -/
def witReadsUptoRow : OpenClaim := { program := "ytdbmfnhbgacldaa", sum := "7009705a19703607e1ef061904e446494c1e05c151342e5f6544cd2b4a23196d", func := "alibi/alibilaw13.WitReads", spec := "witReads", apart := false, narrowed := true }
def WitReadsUptoSaid : Prop := witReadsUptoRow.holds Try.pinned (OpenSpec.upto witReadsSpec)

/-- 'alibilaw13.WitBack', WHERE WHAT IT READS IS OF BULK AT MOST 1048576: true; the input reads as it did. -/
def witBackUptoRow : OpenClaim := { program := "ytdbmfnhbgacldaa", sum := "7009705a19703607e1ef061904e446494c1e05c151342e5f6544cd2b4a23196d", func := "alibi/alibilaw13.WitBack", spec := "witBack", apart := false, narrowed := true }
def WitBackUptoSaid : Prop := witBackUptoRow.holds Try.pinned (OpenSpec.upto witBackSpec)

/-- 'alibilaw07.PcodeReads', WHERE WHAT IT READS IS OF BULK AT MOST 1048576: true; the input reads as it did. -/
def pcodeReadsUptoRow : OpenClaim := { program := "ytdbmfnhbgacldaa", sum := "7009705a19703607e1ef061904e446494c1e05c151342e5f6544cd2b4a23196d", func := "alibi/alibilaw07.PcodeReads", spec := "pcodeReads", recurses := true, apart := false, narrowed := true }
def PcodeReadsUptoSaid : Prop := pcodeReadsUptoRow.holds Try.pinned (OpenSpec.upto pcodeReadsSpec)

/-- 'alibilaw07.PcodeBack', WHERE WHAT IT READS IS OF BULK AT MOST 1048576: true; the input reads as it did. -/
def pcodeBackUptoRow : OpenClaim := { program := "ytdbmfnhbgacldaa", sum := "7009705a19703607e1ef061904e446494c1e05c151342e5f6544cd2b4a23196d", func := "alibi/alibilaw07.PcodeBack", spec := "pcodeBack", recurses := true, apart := false, narrowed := true }
def PcodeBackUptoSaid : Prop := pcodeBackUptoRow.holds Try.pinned (OpenSpec.upto pcodeBackSpec)

/-- 'alibilaw07.PcodeOnce', WHERE WHAT IT READS IS OF BULK AT MOST 1048576: true; the input reads as it did. -/
def pcodeOnceUptoRow : OpenClaim := { program := "ytdbmfnhbgacldaa", sum := "7009705a19703607e1ef061904e446494c1e05c151342e5f6544cd2b4a23196d", func := "alibi/alibilaw07.PcodeOnce", spec := "pcodeOnce", recurses := true, apart := false, narrowed := true }
def PcodeOnceUptoSaid : Prop := pcodeOnceUptoRow.holds Try.pinned (OpenSpec.upto pcodeOnceSpec)

end Rows
end Go.Proofs.Ytdbmfnhbgacldaa
