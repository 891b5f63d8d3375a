/-
  NARROWER THAN 'FOR EVERY INPUT', by the rows' own cells (each row's printed sentence says how): SetsOf: laid · SetsCount: laid · SetsBack: laid · SetsOnes: laid · SetsTell: laid · SetsMeet: laid.
  DERIVED. THE GIVEN ROWS OF THIS SEAT. 6 by the template 'for every input the law returns true; each argument reads behind the call as it read before'; 0 by the template 'total and deterministic' (their statements: YtfglfhanikpafaaDoorTotals.lean).
  GIVEN WITH THE SEED: the statements are not yours to turn. If you find one false, say at which input.
  Laid BY PROGRAM, IN A SANDBOX (cutbox-rows.mjs): the forced cells as the released guide's own fill.sh prints them over the translation 4caf45de5927512c… (all of the seat's roots in one cut). By AI agents, Wed Nov 11 2026. No macro, syntax, notation, axiom, sorry.
-/
import Derived.Test.YtfglfhanikpafaaDoorChecked
import GoSem.Claim
import GoSem.ClaimJoined
import GoSem.ClaimMapViews
import Derived.JoinedTies
import Derived.KernelRfl
namespace Go.Proofs.YtfglfhanikpafaaDoor
/- THE CELL 'sum', in the pinned program and in every row, IS THE sha256 OF THE DUMP (.gsa) THAT YtfglfhanikpafaaDoorProg.lean LOADS. Nothing in Lean hashes anything: it is a label: what it is worth is what the hold of that sum in a sandbox is worth. -/
noncomputable def Tryd.pinned : Pinned := { name := "ytfglfhanikpafaadoor", sum := "4caf45de5927512cd49d9ba874386727eccde08880e80e0011c49c9215313a18", checked := Tryd.checked }
namespace Rows
def none {H : Type} : Left H := { results := [], args := [] }

/- WHAT THE LISTED PACKAGE-LEVEL VARIABLES READ AS WHEN THE CALL BEGINS. Each datum BY PROGRAM (the guide's laid-datum.mjs) off the statement by which the dump's own 'gosem.cut.vars' lays the variable. In a bare row this is a premise. The card (YtfglfhanikpafaaDoorCards.lean) ties it to the program's text. -/
def laid_math_bits_deBruijn32tab {H : Type} : DataW H := .agg [.lit (.int .u8 0), .lit (.int .u8 1), .lit (.int .u8 28), .lit (.int .u8 2), .lit (.int .u8 29), .lit (.int .u8 14), .lit (.int .u8 24), .lit (.int .u8 3), .lit (.int .u8 30), .lit (.int .u8 22), .lit (.int .u8 20), .lit (.int .u8 15), .lit (.int .u8 25), .lit (.int .u8 17), .lit (.int .u8 4), .lit (.int .u8 8), .lit (.int .u8 31), .lit (.int .u8 27), .lit (.int .u8 13), .lit (.int .u8 23), .lit (.int .u8 21), .lit (.int .u8 19), .lit (.int .u8 16), .lit (.int .u8 7), .lit (.int .u8 26), .lit (.int .u8 12), .lit (.int .u8 18), .lit (.int .u8 6), .lit (.int .u8 11), .lit (.int .u8 5), .lit (.int .u8 10), .lit (.int .u8 9)]

/-- 'alibilaw03.SetsOf': WHATEVER THE INPUT: true; the input reads as it did. -/
def setsOfSpec : ChangeSpec := { name := "setsOf", fn := fun _ => fun
  | [d1, d2] => { results := [.lit (.bool true)], args := [d1, d2] }
  | _ => none }
def setsOfRow : OpenClaim := { program := "ytfglfhanikpafaadoor", sum := "4caf45de5927512cd49d9ba874386727eccde08880e80e0011c49c9215313a18", func := "alibi/alibilaw03.SetsOf", spec := "setsOf", named := ["math/bits.deBruijn32tab"], apart := false, laid := [("math/bits.deBruijn32tab", laid_math_bits_deBruijn32tab)] }
def SetsOfSaid : Prop := setsOfRow.holds Tryd.pinned (OpenSpec.ofChange setsOfSpec)

/-- ITS FALSE NEIGHBOUR: 'it returns false'. Refute it at one input. -/
def setsOfWrong : ChangeSpec := { name := "setsOf", fn := fun _ => fun
  | [d1, d2] => { results := [.lit (.bool false)], args := [d1, d2] }
  | _ => none }
def SetsOfWrongFalsely : Prop := setsOfRow.holds Tryd.pinned (OpenSpec.ofChange setsOfWrong)

/-- 'alibilaw03.SetsCount': WHATEVER THE INPUT: true; the input reads as it did. -/
def setsCountSpec : ChangeSpec := { name := "setsCount", fn := fun _ => fun
  | [d1, d2, d3] => { results := [.lit (.bool true)], args := [d1, d2, d3] }
  | _ => none }
def setsCountRow : OpenClaim := { program := "ytfglfhanikpafaadoor", sum := "4caf45de5927512cd49d9ba874386727eccde08880e80e0011c49c9215313a18", func := "alibi/alibilaw03.SetsCount", spec := "setsCount", named := ["math/bits.deBruijn32tab"], apart := false, laid := [("math/bits.deBruijn32tab", laid_math_bits_deBruijn32tab)] }
def SetsCountSaid : Prop := setsCountRow.holds Tryd.pinned (OpenSpec.ofChange setsCountSpec)

/-- ITS FALSE NEIGHBOUR: 'it returns false'. Refute it at one input. -/
def setsCountWrong : ChangeSpec := { name := "setsCount", fn := fun _ => fun
  | [d1, d2, d3] => { results := [.lit (.bool false)], args := [d1, d2, d3] }
  | _ => none }
def SetsCountWrongFalsely : Prop := setsCountRow.holds Tryd.pinned (OpenSpec.ofChange setsCountWrong)

/-- 'alibilaw03.SetsBack': WHATEVER THE INPUT: true; the input reads as it did. -/
def setsBackSpec : ChangeSpec := { name := "setsBack", fn := fun _ => fun
  | [d] => { results := [.lit (.bool true)], args := [d] }
  | _ => none }
def setsBackRow : OpenClaim := { program := "ytfglfhanikpafaadoor", sum := "4caf45de5927512cd49d9ba874386727eccde08880e80e0011c49c9215313a18", func := "alibi/alibilaw03.SetsBack", spec := "setsBack", named := ["math/bits.deBruijn32tab"], apart := false, laid := [("math/bits.deBruijn32tab", laid_math_bits_deBruijn32tab)] }
def SetsBackSaid : Prop := setsBackRow.holds Tryd.pinned (OpenSpec.ofChange setsBackSpec)

/-- ITS FALSE NEIGHBOUR: 'it returns false'. Refute it at one input. -/
def setsBackWrong : ChangeSpec := { name := "setsBack", fn := fun _ => fun
  | [d] => { results := [.lit (.bool false)], args := [d] }
  | _ => none }
def SetsBackWrongFalsely : Prop := setsBackRow.holds Tryd.pinned (OpenSpec.ofChange setsBackWrong)

/-- 'alibilaw03.SetsOnes': WHATEVER THE INPUT: true; the input reads as it did. -/
def setsOnesSpec : ChangeSpec := { name := "setsOnes", fn := fun _ => fun
  | [d1, d2] => { results := [.lit (.bool true)], args := [d1, d2] }
  | _ => none }
def setsOnesRow : OpenClaim := { program := "ytfglfhanikpafaadoor", sum := "4caf45de5927512cd49d9ba874386727eccde08880e80e0011c49c9215313a18", func := "alibi/alibilaw03.SetsOnes", spec := "setsOnes", named := ["math/bits.deBruijn32tab"], apart := false, laid := [("math/bits.deBruijn32tab", laid_math_bits_deBruijn32tab)] }
def SetsOnesSaid : Prop := setsOnesRow.holds Tryd.pinned (OpenSpec.ofChange setsOnesSpec)

/-- ITS FALSE NEIGHBOUR: 'it returns false'. Refute it at one input. -/
def setsOnesWrong : ChangeSpec := { name := "setsOnes", fn := fun _ => fun
  | [d1, d2] => { results := [.lit (.bool false)], args := [d1, d2] }
  | _ => none }
def SetsOnesWrongFalsely : Prop := setsOnesRow.holds Tryd.pinned (OpenSpec.ofChange setsOnesWrong)

/-- 'alibilaw03.SetsTell': WHATEVER THE INPUT: true; the input reads as it did. -/
def setsTellSpec : ChangeSpec := { name := "setsTell", fn := fun _ => fun
  | [d1, d2, d3] => { results := [.lit (.bool true)], args := [d1, d2, d3] }
  | _ => none }
def setsTellRow : OpenClaim := { program := "ytfglfhanikpafaadoor", sum := "4caf45de5927512cd49d9ba874386727eccde08880e80e0011c49c9215313a18", func := "alibi/alibilaw03.SetsTell", spec := "setsTell", named := ["math/bits.deBruijn32tab"], apart := false, laid := [("math/bits.deBruijn32tab", laid_math_bits_deBruijn32tab)] }
def SetsTellSaid : Prop := setsTellRow.holds Tryd.pinned (OpenSpec.ofChange setsTellSpec)

/-- ITS FALSE NEIGHBOUR: 'it returns false'. Refute it at one input. -/
def setsTellWrong : ChangeSpec := { name := "setsTell", fn := fun _ => fun
  | [d1, d2, d3] => { results := [.lit (.bool false)], args := [d1, d2, d3] }
  | _ => none }
def SetsTellWrongFalsely : Prop := setsTellRow.holds Tryd.pinned (OpenSpec.ofChange setsTellWrong)

/-- 'alibilaw03.SetsMeet': WHATEVER THE INPUT: true; the input reads as it did. -/
def setsMeetSpec : ChangeSpec := { name := "setsMeet", fn := fun _ => fun
  | [d1, d2] => { results := [.lit (.bool true)], args := [d1, d2] }
  | _ => none }
def setsMeetRow : OpenClaim := { program := "ytfglfhanikpafaadoor", sum := "4caf45de5927512cd49d9ba874386727eccde08880e80e0011c49c9215313a18", func := "alibi/alibilaw03.SetsMeet", spec := "setsMeet", named := ["math/bits.deBruijn32tab"], apart := false, laid := [("math/bits.deBruijn32tab", laid_math_bits_deBruijn32tab)] }
def SetsMeetSaid : Prop := setsMeetRow.holds Tryd.pinned (OpenSpec.ofChange setsMeetSpec)

/-- ITS FALSE NEIGHBOUR: 'it returns false'. Refute it at one input. -/
def setsMeetWrong : ChangeSpec := { name := "setsMeet", fn := fun _ => fun
  | [d1, d2] => { results := [.lit (.bool false)], args := [d1, d2] }
  | _ => none }
def SetsMeetWrongFalsely : Prop := setsMeetRow.holds Tryd.pinned (OpenSpec.ofChange setsMeetWrong)

/- THE SECOND FORM. 'bulk': how many values and letters a reading holds, each counted each time it is reached (what is shared counts as often as it is met; a slice's spare places count too). A statement '..UptoSaid' is the law's where the arguments, and the package variables that the reading takes, are together of bulk at most 1048576: NARROWER than '..Said'. Prove '..Said' where nothing that the law and all that it calls make is longer than what came in: it says more and counts as full. Else prove '..UptoSaid'. A law counts once. -/
mutual
def uptoBulk {H : Type} : DataW H → Nat
  | .lit (.string bytes) => bytes.length + 1
  | .lit _ => 1
  | .nil => 1
  | .ptr d => uptoBulk d + 1
  | .slice elems spare => uptoBulkAll elems + uptoBulkAll spare + 1
  | .agg parts => uptoBulkAll parts + 1
  | .iface _ d => uptoBulk d + 1
  | .map entries => uptoBulkEntries entries + 1
  | .held _ => 1
def uptoBulkAll {H : Type} : List (DataW H) → Nat
  | [] => 0
  | d :: r => uptoBulk d + uptoBulkAll r
def uptoBulkEntries {H : Type} : List (Lit × DataW H) → Nat
  | [] => 0
  | x :: r => uptoBulkEntry x + uptoBulkEntries r
def uptoBulkEntry {H : Type} : Lit × DataW H → Nat
  | (.string bytes, d) => bytes.length + uptoBulk d + 1
  | (_, d) => uptoBulk d + 1
 end
def uptoSmall : (H : Type) → List (DataW H) → Bool := fun _ ds => decide (uptoBulkAll ds ≤ 1048576)
def OpenSpec.upto (s : _root_.Go.ChangeSpec) : _root_.Go.OpenSpec := { _root_.Go.OpenSpec.ofChange s with cond := some uptoSmall }

/-- 'alibilaw03.SetsOf', WHERE WHAT IT READS IS OF BULK AT MOST 1048576: true; the input reads as it did. -/
def setsOfUptoRow : OpenClaim := { program := "ytfglfhanikpafaadoor", sum := "4caf45de5927512cd49d9ba874386727eccde08880e80e0011c49c9215313a18", func := "alibi/alibilaw03.SetsOf", spec := "setsOf", named := ["math/bits.deBruijn32tab"], apart := false, laid := [("math/bits.deBruijn32tab", laid_math_bits_deBruijn32tab)], narrowed := true }
def SetsOfUptoSaid : Prop := setsOfUptoRow.holds Tryd.pinned (OpenSpec.upto setsOfSpec)

/-- 'alibilaw03.SetsCount', WHERE WHAT IT READS IS OF BULK AT MOST 1048576: true; the input reads as it did. -/
def setsCountUptoRow : OpenClaim := { program := "ytfglfhanikpafaadoor", sum := "4caf45de5927512cd49d9ba874386727eccde08880e80e0011c49c9215313a18", func := "alibi/alibilaw03.SetsCount", spec := "setsCount", named := ["math/bits.deBruijn32tab"], apart := false, laid := [("math/bits.deBruijn32tab", laid_math_bits_deBruijn32tab)], narrowed := true }
def SetsCountUptoSaid : Prop := setsCountUptoRow.holds Tryd.pinned (OpenSpec.upto setsCountSpec)

/-- 'alibilaw03.SetsBack', WHERE WHAT IT READS IS OF BULK AT MOST 1048576: true; the input reads as it did. -/
def setsBackUptoRow : OpenClaim := { program := "ytfglfhanikpafaadoor", sum := "4caf45de5927512cd49d9ba874386727eccde08880e80e0011c49c9215313a18", func := "alibi/alibilaw03.SetsBack", spec := "setsBack", named := ["math/bits.deBruijn32tab"], apart := false, laid := [("math/bits.deBruijn32tab", laid_math_bits_deBruijn32tab)], narrowed := true }
def SetsBackUptoSaid : Prop := setsBackUptoRow.holds Tryd.pinned (OpenSpec.upto setsBackSpec)

/-- 'alibilaw03.SetsOnes', WHERE WHAT IT READS IS OF BULK AT MOST 1048576: true; the input reads as it did. -/
def setsOnesUptoRow : OpenClaim := { program := "ytfglfhanikpafaadoor", sum := "4caf45de5927512cd49d9ba874386727eccde08880e80e0011c49c9215313a18", func := "alibi/alibilaw03.SetsOnes", spec := "setsOnes", named := ["math/bits.deBruijn32tab"], apart := false, laid := [("math/bits.deBruijn32tab", laid_math_bits_deBruijn32tab)], narrowed := true }
def SetsOnesUptoSaid : Prop := setsOnesUptoRow.holds Tryd.pinned (OpenSpec.upto setsOnesSpec)

/-- 'alibilaw03.SetsTell', WHERE WHAT IT READS IS OF BULK AT MOST 1048576: true; the input reads as it did. -/
def setsTellUptoRow : OpenClaim := { program := "ytfglfhanikpafaadoor", sum := "4caf45de5927512cd49d9ba874386727eccde08880e80e0011c49c9215313a18", func := "alibi/alibilaw03.SetsTell", spec := "setsTell", named := ["math/bits.deBruijn32tab"], apart := false, laid := [("math/bits.deBruijn32tab", laid_math_bits_deBruijn32tab)], narrowed := true }
def SetsTellUptoSaid : Prop := setsTellUptoRow.holds Tryd.pinned (OpenSpec.upto setsTellSpec)

/-- 'alibilaw03.SetsMeet', WHERE WHAT IT READS IS OF BULK AT MOST 1048576: true; the input reads as it did. -/
def setsMeetUptoRow : OpenClaim := { program := "ytfglfhanikpafaadoor", sum := "4caf45de5927512cd49d9ba874386727eccde08880e80e0011c49c9215313a18", func := "alibi/alibilaw03.SetsMeet", spec := "setsMeet", named := ["math/bits.deBruijn32tab"], apart := false, laid := [("math/bits.deBruijn32tab", laid_math_bits_deBruijn32tab)], narrowed := true }
def SetsMeetUptoSaid : Prop := setsMeetUptoRow.holds Tryd.pinned (OpenSpec.upto setsMeetSpec)

end Rows
end Go.Proofs.YtfglfhanikpafaaDoor
