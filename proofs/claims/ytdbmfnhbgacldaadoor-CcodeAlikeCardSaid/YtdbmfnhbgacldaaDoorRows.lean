/-
  NARROWER THAN 'FOR EVERY INPUT', by the rows' own cells (each row's printed sentence says how): WireWrites: laid · WireReads: laid · WireStays: laid · WireBack: laid · PcodeWrites: laid · CcodeWrites: laid · CcodeAlike: laid · CcodeReads: laid · CcodeOnce: laid · CcodeLast: laid · CcodeBack: laid.
  DERIVED. THE GIVEN ROWS OF THIS SEAT. 11 by the template 'for every input the law returns true; each argument reads behind the call as it read before'; 0 by the template 'total and deterministic' (their statements: YtdbmfnhbgacldaaDoorTotals.lean).
  GIVEN WITH THE SEED: the statements are not yours to turn. If you find one false, say at which input.
  Laid BY PROGRAM, IN A SANDBOX (cutbox-rows.mjs): the forced cells as the released guide's own fill.sh prints them over the translation e96863e1ff65f628… (all of the seat's roots in one cut). By AI agents, Wed Nov 11 2026. No macro, syntax, notation, axiom, sorry.
-/
import Derived.Test.YtdbmfnhbgacldaaDoorChecked
import GoSem.Claim
import GoSem.ClaimJoined
import GoSem.ClaimMapViews
import Derived.JoinedTies
import Derived.KernelRfl
namespace Go.Proofs.YtdbmfnhbgacldaaDoor
/- THE CELL 'sum', in the pinned program and in every row, IS THE sha256 OF THE DUMP (.gsa) THAT YtdbmfnhbgacldaaDoorProg.lean LOADS. Nothing in Lean hashes anything: it is a label: what it is worth is what the hold of that sum in a sandbox is worth. -/
noncomputable def Tryd.pinned : Pinned := { name := "ytdbmfnhbgacldaadoor", sum := "e96863e1ff65f6288360f6bd80592669bf5444955501b31522f6b3d04b1d41db", checked := Tryd.checked }
namespace Rows
def none {H : Type} : Left H := { results := [], args := [] }

/- WHAT THE LISTED PACKAGE-LEVEL VARIABLES READ AS WHEN THE CALL BEGINS. Each datum BY PROGRAM (the guide's laid-datum.mjs) off the statement by which the dump's own 'gosem.cut.vars' lays the variable. In a bare row this is a premise. The card (YtdbmfnhbgacldaaDoorCards.lean) ties it to the program's text. -/
def laid_math_bits_deBruijn32tab {H : Type} : DataW H := .agg [.lit (.int .u8 0), .lit (.int .u8 1), .lit (.int .u8 28), .lit (.int .u8 2), .lit (.int .u8 29), .lit (.int .u8 14), .lit (.int .u8 24), .lit (.int .u8 3), .lit (.int .u8 30), .lit (.int .u8 22), .lit (.int .u8 20), .lit (.int .u8 15), .lit (.int .u8 25), .lit (.int .u8 17), .lit (.int .u8 4), .lit (.int .u8 8), .lit (.int .u8 31), .lit (.int .u8 27), .lit (.int .u8 13), .lit (.int .u8 23), .lit (.int .u8 21), .lit (.int .u8 19), .lit (.int .u8 16), .lit (.int .u8 7), .lit (.int .u8 26), .lit (.int .u8 12), .lit (.int .u8 18), .lit (.int .u8 6), .lit (.int .u8 11), .lit (.int .u8 5), .lit (.int .u8 10), .lit (.int .u8 9)]
def laid_alibi_sha_keys {H : Type} : DataW H := .agg [.lit (.int .u32 1116352408), .lit (.int .u32 1899447441), .lit (.int .u32 3049323471), .lit (.int .u32 3921009573), .lit (.int .u32 961987163), .lit (.int .u32 1508970993), .lit (.int .u32 2453635748), .lit (.int .u32 2870763221), .lit (.int .u32 3624381080), .lit (.int .u32 310598401), .lit (.int .u32 607225278), .lit (.int .u32 1426881987), .lit (.int .u32 1925078388), .lit (.int .u32 2162078206), .lit (.int .u32 2614888103), .lit (.int .u32 3248222580), .lit (.int .u32 3835390401), .lit (.int .u32 4022224774), .lit (.int .u32 264347078), .lit (.int .u32 604807628), .lit (.int .u32 770255983), .lit (.int .u32 1249150122), .lit (.int .u32 1555081692), .lit (.int .u32 1996064986), .lit (.int .u32 2554220882), .lit (.int .u32 2821834349), .lit (.int .u32 2952996808), .lit (.int .u32 3210313671), .lit (.int .u32 3336571891), .lit (.int .u32 3584528711), .lit (.int .u32 113926993), .lit (.int .u32 338241895), .lit (.int .u32 666307205), .lit (.int .u32 773529912), .lit (.int .u32 1294757372), .lit (.int .u32 1396182291), .lit (.int .u32 1695183700), .lit (.int .u32 1986661051), .lit (.int .u32 2177026350), .lit (.int .u32 2456956037), .lit (.int .u32 2730485921), .lit (.int .u32 2820302411), .lit (.int .u32 3259730800), .lit (.int .u32 3345764771), .lit (.int .u32 3516065817), .lit (.int .u32 3600352804), .lit (.int .u32 4094571909), .lit (.int .u32 275423344), .lit (.int .u32 430227734), .lit (.int .u32 506948616), .lit (.int .u32 659060556), .lit (.int .u32 883997877), .lit (.int .u32 958139571), .lit (.int .u32 1322822218), .lit (.int .u32 1537002063), .lit (.int .u32 1747873779), .lit (.int .u32 1955562222), .lit (.int .u32 2024104815), .lit (.int .u32 2227730452), .lit (.int .u32 2361852424), .lit (.int .u32 2428436474), .lit (.int .u32 2756734187), .lit (.int .u32 3204031479), .lit (.int .u32 3329325298)]

/-- 'alibilaw04.WireWrites': WHATEVER THE INPUT: true; the input reads as it did. -/
def wireWritesSpec : ChangeSpec := { name := "wireWrites", fn := fun _ => fun
  | [d] => { results := [.lit (.bool true)], args := [d] }
  | _ => none }
def wireWritesRow : OpenClaim := { program := "ytdbmfnhbgacldaadoor", sum := "e96863e1ff65f6288360f6bd80592669bf5444955501b31522f6b3d04b1d41db", func := "alibi/alibilaw04.WireWrites", spec := "wireWrites", recurses := true, named := ["math/bits.deBruijn32tab"], apart := false, laid := [("math/bits.deBruijn32tab", laid_math_bits_deBruijn32tab)] }
def WireWritesSaid : Prop := wireWritesRow.holds Tryd.pinned (OpenSpec.ofChange wireWritesSpec)

/-- ITS FALSE NEIGHBOUR: 'it returns false'. Refute it at one input. -/
def wireWritesWrong : ChangeSpec := { name := "wireWrites", fn := fun _ => fun
  | [d] => { results := [.lit (.bool false)], args := [d] }
  | _ => none }
def WireWritesWrongFalsely : Prop := wireWritesRow.holds Tryd.pinned (OpenSpec.ofChange wireWritesWrong)

/-- 'alibilaw04.WireReads': WHATEVER THE INPUT: true; the input reads as it did. -/
def wireReadsSpec : ChangeSpec := { name := "wireReads", fn := fun _ => fun
  | [d1, d2] => { results := [.lit (.bool true)], args := [d1, d2] }
  | _ => none }
def wireReadsRow : OpenClaim := { program := "ytdbmfnhbgacldaadoor", sum := "e96863e1ff65f6288360f6bd80592669bf5444955501b31522f6b3d04b1d41db", func := "alibi/alibilaw04.WireReads", spec := "wireReads", named := ["math/bits.deBruijn32tab"], apart := false, laid := [("math/bits.deBruijn32tab", laid_math_bits_deBruijn32tab)] }
def WireReadsSaid : Prop := wireReadsRow.holds Tryd.pinned (OpenSpec.ofChange wireReadsSpec)

/-- ITS FALSE NEIGHBOUR: 'it returns false'. Refute it at one input. -/
def wireReadsWrong : ChangeSpec := { name := "wireReads", fn := fun _ => fun
  | [d1, d2] => { results := [.lit (.bool false)], args := [d1, d2] }
  | _ => none }
def WireReadsWrongFalsely : Prop := wireReadsRow.holds Tryd.pinned (OpenSpec.ofChange wireReadsWrong)

/-- 'alibilaw04.WireStays': WHATEVER THE INPUT: true; the input reads as it did. -/
def wireStaysSpec : ChangeSpec := { name := "wireStays", fn := fun _ => fun
  | [d1, d2, d3] => { results := [.lit (.bool true)], args := [d1, d2, d3] }
  | _ => none }
def wireStaysRow : OpenClaim := { program := "ytdbmfnhbgacldaadoor", sum := "e96863e1ff65f6288360f6bd80592669bf5444955501b31522f6b3d04b1d41db", func := "alibi/alibilaw04.WireStays", spec := "wireStays", recurses := true, named := ["math/bits.deBruijn32tab"], apart := false, laid := [("math/bits.deBruijn32tab", laid_math_bits_deBruijn32tab)] }
def WireStaysSaid : Prop := wireStaysRow.holds Tryd.pinned (OpenSpec.ofChange wireStaysSpec)

/-- ITS FALSE NEIGHBOUR: 'it returns false'. Refute it at one input. -/
def wireStaysWrong : ChangeSpec := { name := "wireStays", fn := fun _ => fun
  | [d1, d2, d3] => { results := [.lit (.bool false)], args := [d1, d2, d3] }
  | _ => none }
def WireStaysWrongFalsely : Prop := wireStaysRow.holds Tryd.pinned (OpenSpec.ofChange wireStaysWrong)

/-- 'alibilaw04.WireBack': WHATEVER THE INPUT: true; the input reads as it did. -/
def wireBackSpec : ChangeSpec := { name := "wireBack", fn := fun _ => fun
  | [d1, d2] => { results := [.lit (.bool true)], args := [d1, d2] }
  | _ => none }
def wireBackRow : OpenClaim := { program := "ytdbmfnhbgacldaadoor", sum := "e96863e1ff65f6288360f6bd80592669bf5444955501b31522f6b3d04b1d41db", func := "alibi/alibilaw04.WireBack", spec := "wireBack", named := ["math/bits.deBruijn32tab"], apart := false, laid := [("math/bits.deBruijn32tab", laid_math_bits_deBruijn32tab)] }
def WireBackSaid : Prop := wireBackRow.holds Tryd.pinned (OpenSpec.ofChange wireBackSpec)

/-- ITS FALSE NEIGHBOUR: 'it returns false'. Refute it at one input. -/
def wireBackWrong : ChangeSpec := { name := "wireBack", fn := fun _ => fun
  | [d1, d2] => { results := [.lit (.bool false)], args := [d1, d2] }
  | _ => none }
def WireBackWrongFalsely : Prop := wireBackRow.holds Tryd.pinned (OpenSpec.ofChange wireBackWrong)

/-- 'alibilaw07.PcodeWrites': WHATEVER THE INPUT: true; the input reads as it did. -/
def pcodeWritesSpec : ChangeSpec := { name := "pcodeWrites", fn := fun _ => fun
  | [d] => { results := [.lit (.bool true)], args := [d] }
  | _ => none }
def pcodeWritesRow : OpenClaim := { program := "ytdbmfnhbgacldaadoor", sum := "e96863e1ff65f6288360f6bd80592669bf5444955501b31522f6b3d04b1d41db", func := "alibi/alibilaw07.PcodeWrites", spec := "pcodeWrites", recurses := true, named := ["alibi/sha.keys"], apart := false, laid := [("alibi/sha.keys", laid_alibi_sha_keys)] }
def PcodeWritesSaid : Prop := pcodeWritesRow.holds Tryd.pinned (OpenSpec.ofChange pcodeWritesSpec)

/-- ITS FALSE NEIGHBOUR: 'it returns false'. Refute it at one input. -/
def pcodeWritesWrong : ChangeSpec := { name := "pcodeWrites", fn := fun _ => fun
  | [d] => { results := [.lit (.bool false)], args := [d] }
  | _ => none }
def PcodeWritesWrongFalsely : Prop := pcodeWritesRow.holds Tryd.pinned (OpenSpec.ofChange pcodeWritesWrong)

/-- 'alibilaw19.CcodeWrites': WHATEVER THE INPUT: true; the input reads as it did. -/
def ccodeWritesSpec : ChangeSpec := { name := "ccodeWrites", fn := fun _ => fun
  | [d] => { results := [.lit (.bool true)], args := [d] }
  | _ => none }
def ccodeWritesRow : OpenClaim := { program := "ytdbmfnhbgacldaadoor", sum := "e96863e1ff65f6288360f6bd80592669bf5444955501b31522f6b3d04b1d41db", func := "alibi/alibilaw19.CcodeWrites", spec := "ccodeWrites", unfollowed := true, recurses := true, named := ["alibi/sha.keys", "math/bits.deBruijn32tab"], apart := false, laid := [("math/bits.deBruijn32tab", laid_math_bits_deBruijn32tab), ("alibi/sha.keys", laid_alibi_sha_keys)] }
def CcodeWritesSaid : Prop := ccodeWritesRow.holds Tryd.pinned (OpenSpec.ofChange ccodeWritesSpec)

/-- ITS FALSE NEIGHBOUR: 'it returns false'. Refute it at one input. -/
def ccodeWritesWrong : ChangeSpec := { name := "ccodeWrites", fn := fun _ => fun
  | [d] => { results := [.lit (.bool false)], args := [d] }
  | _ => none }
def CcodeWritesWrongFalsely : Prop := ccodeWritesRow.holds Tryd.pinned (OpenSpec.ofChange ccodeWritesWrong)

/-- 'alibilaw19.CcodeAlike': WHATEVER THE INPUT: true; the input reads as it did. -/
def ccodeAlikeSpec : ChangeSpec := { name := "ccodeAlike", fn := fun _ => fun
  | [d1, d2] => { results := [.lit (.bool true)], args := [d1, d2] }
  | _ => none }
def ccodeAlikeRow : OpenClaim := { program := "ytdbmfnhbgacldaadoor", sum := "e96863e1ff65f6288360f6bd80592669bf5444955501b31522f6b3d04b1d41db", func := "alibi/alibilaw19.CcodeAlike", spec := "ccodeAlike", unfollowed := true, recurses := true, named := ["alibi/sha.keys", "math/bits.deBruijn32tab"], apart := false, laid := [("math/bits.deBruijn32tab", laid_math_bits_deBruijn32tab), ("alibi/sha.keys", laid_alibi_sha_keys)] }
def CcodeAlikeSaid : Prop := ccodeAlikeRow.holds Tryd.pinned (OpenSpec.ofChange ccodeAlikeSpec)

/-- ITS FALSE NEIGHBOUR: 'it returns false'. Refute it at one input. -/
def ccodeAlikeWrong : ChangeSpec := { name := "ccodeAlike", fn := fun _ => fun
  | [d1, d2] => { results := [.lit (.bool false)], args := [d1, d2] }
  | _ => none }
def CcodeAlikeWrongFalsely : Prop := ccodeAlikeRow.holds Tryd.pinned (OpenSpec.ofChange ccodeAlikeWrong)

/-- 'alibilaw19.CcodeReads': WHATEVER THE INPUT: true; the input reads as it did. -/
def ccodeReadsSpec : ChangeSpec := { name := "ccodeReads", fn := fun _ => fun
  | [d] => { results := [.lit (.bool true)], args := [d] }
  | _ => none }
def ccodeReadsRow : OpenClaim := { program := "ytdbmfnhbgacldaadoor", sum := "e96863e1ff65f6288360f6bd80592669bf5444955501b31522f6b3d04b1d41db", func := "alibi/alibilaw19.CcodeReads", spec := "ccodeReads", unfollowed := true, recurses := true, named := ["alibi/sha.keys", "math/bits.deBruijn32tab"], apart := false, laid := [("math/bits.deBruijn32tab", laid_math_bits_deBruijn32tab), ("alibi/sha.keys", laid_alibi_sha_keys)] }
def CcodeReadsSaid : Prop := ccodeReadsRow.holds Tryd.pinned (OpenSpec.ofChange ccodeReadsSpec)

/-- ITS FALSE NEIGHBOUR: 'it returns false'. Refute it at one input. -/
def ccodeReadsWrong : ChangeSpec := { name := "ccodeReads", fn := fun _ => fun
  | [d] => { results := [.lit (.bool false)], args := [d] }
  | _ => none }
def CcodeReadsWrongFalsely : Prop := ccodeReadsRow.holds Tryd.pinned (OpenSpec.ofChange ccodeReadsWrong)

/-- 'alibilaw19.CcodeOnce': WHATEVER THE INPUT: true; the input reads as it did. -/
def ccodeOnceSpec : ChangeSpec := { name := "ccodeOnce", fn := fun _ => fun
  | [d] => { results := [.lit (.bool true)], args := [d] }
  | _ => none }
def ccodeOnceRow : OpenClaim := { program := "ytdbmfnhbgacldaadoor", sum := "e96863e1ff65f6288360f6bd80592669bf5444955501b31522f6b3d04b1d41db", func := "alibi/alibilaw19.CcodeOnce", spec := "ccodeOnce", unfollowed := true, recurses := true, named := ["alibi/sha.keys", "math/bits.deBruijn32tab"], apart := false, laid := [("math/bits.deBruijn32tab", laid_math_bits_deBruijn32tab), ("alibi/sha.keys", laid_alibi_sha_keys)] }
def CcodeOnceSaid : Prop := ccodeOnceRow.holds Tryd.pinned (OpenSpec.ofChange ccodeOnceSpec)

/-- ITS FALSE NEIGHBOUR: 'it returns false'. Refute it at one input. -/
def ccodeOnceWrong : ChangeSpec := { name := "ccodeOnce", fn := fun _ => fun
  | [d] => { results := [.lit (.bool false)], args := [d] }
  | _ => none }
def CcodeOnceWrongFalsely : Prop := ccodeOnceRow.holds Tryd.pinned (OpenSpec.ofChange ccodeOnceWrong)

/-- 'alibilaw19.CcodeLast': WHATEVER THE INPUT: true; the input reads as it did. -/
def ccodeLastSpec : ChangeSpec := { name := "ccodeLast", fn := fun _ => fun
  | [d1, d2, d3] => { results := [.lit (.bool true)], args := [d1, d2, d3] }
  | _ => none }
def ccodeLastRow : OpenClaim := { program := "ytdbmfnhbgacldaadoor", sum := "e96863e1ff65f6288360f6bd80592669bf5444955501b31522f6b3d04b1d41db", func := "alibi/alibilaw19.CcodeLast", spec := "ccodeLast", unfollowed := true, recurses := true, named := ["alibi/sha.keys", "math/bits.deBruijn32tab"], apart := false, laid := [("math/bits.deBruijn32tab", laid_math_bits_deBruijn32tab), ("alibi/sha.keys", laid_alibi_sha_keys)] }
def CcodeLastSaid : Prop := ccodeLastRow.holds Tryd.pinned (OpenSpec.ofChange ccodeLastSpec)

/-- ITS FALSE NEIGHBOUR: 'it returns false'. Refute it at one input. -/
def ccodeLastWrong : ChangeSpec := { name := "ccodeLast", fn := fun _ => fun
  | [d1, d2, d3] => { results := [.lit (.bool false)], args := [d1, d2, d3] }
  | _ => none }
def CcodeLastWrongFalsely : Prop := ccodeLastRow.holds Tryd.pinned (OpenSpec.ofChange ccodeLastWrong)

/-- 'alibilaw19.CcodeBack': WHATEVER THE INPUT: true; the input reads as it did. -/
def ccodeBackSpec : ChangeSpec := { name := "ccodeBack", fn := fun _ => fun
  | [d1, d2, d3] => { results := [.lit (.bool true)], args := [d1, d2, d3] }
  | _ => none }
def ccodeBackRow : OpenClaim := { program := "ytdbmfnhbgacldaadoor", sum := "e96863e1ff65f6288360f6bd80592669bf5444955501b31522f6b3d04b1d41db", func := "alibi/alibilaw19.CcodeBack", spec := "ccodeBack", unfollowed := true, recurses := true, named := ["alibi/sha.keys", "math/bits.deBruijn32tab"], apart := false, laid := [("math/bits.deBruijn32tab", laid_math_bits_deBruijn32tab), ("alibi/sha.keys", laid_alibi_sha_keys)] }
def CcodeBackSaid : Prop := ccodeBackRow.holds Tryd.pinned (OpenSpec.ofChange ccodeBackSpec)

/-- ITS FALSE NEIGHBOUR: 'it returns false'. Refute it at one input. -/
def ccodeBackWrong : ChangeSpec := { name := "ccodeBack", fn := fun _ => fun
  | [d1, d2, d3] => { results := [.lit (.bool false)], args := [d1, d2, d3] }
  | _ => none }
def CcodeBackWrongFalsely : Prop := ccodeBackRow.holds Tryd.pinned (OpenSpec.ofChange ccodeBackWrong)

/- THE SECOND FORM. 'bulk': how many values and letters a reading holds, each counted each time it is reached (what is shared counts as often as it is met; a slice's spare places count too). A statement '..UptoSaid' is the law's where the arguments, and the package variables that the reading takes, are together of bulk at most 1048576: NARROWER than '..Said'. Prove '..Said' where nothing that the law and all that it calls make is longer than what came in: it says more and counts as full. Else prove '..UptoSaid'. A law counts once. -/
mutual
def uptoBulk {H : Type} : DataW H → Nat
  | .lit (.string bytes) => bytes.length + 1
  | .lit _ => 1
  | .nil => 1
  | .ptr d => uptoBulk d + 1
  | .slice elems spare => uptoBulkAll elems + uptoBulkAll spare + 1
  | .agg parts => uptoBulkAll parts + 1
  | .iface _ d => uptoBulk d + 1
  | .map entries => uptoBulkEntries entries + 1
  | .held _ => 1
def uptoBulkAll {H : Type} : List (DataW H) → Nat
  | [] => 0
  | d :: r => uptoBulk d + uptoBulkAll r
def uptoBulkEntries {H : Type} : List (Lit × DataW H) → Nat
  | [] => 0
  | x :: r => uptoBulkEntry x + uptoBulkEntries r
def uptoBulkEntry {H : Type} : Lit × DataW H → Nat
  | (.string bytes, d) => bytes.length + uptoBulk d + 1
  | (_, d) => uptoBulk d + 1
 end
def uptoSmall : (H : Type) → List (DataW H) → Bool := fun _ ds => decide (uptoBulkAll ds ≤ 1048576)
def OpenSpec.upto (s : _root_.Go.ChangeSpec) : _root_.Go.OpenSpec := { _root_.Go.OpenSpec.ofChange s with cond := some uptoSmall }

/-- 'alibilaw04.WireWrites', WHERE WHAT IT READS IS OF BULK AT MOST 1048576: true; the input reads as it did. -/
def wireWritesUptoRow : OpenClaim := { program := "ytdbmfnhbgacldaadoor", sum := "e96863e1ff65f6288360f6bd80592669bf5444955501b31522f6b3d04b1d41db", func := "alibi/alibilaw04.WireWrites", spec := "wireWrites", recurses := true, named := ["math/bits.deBruijn32tab"], apart := false, laid := [("math/bits.deBruijn32tab", laid_math_bits_deBruijn32tab)], narrowed := true }
def WireWritesUptoSaid : Prop := wireWritesUptoRow.holds Tryd.pinned (OpenSpec.upto wireWritesSpec)

/-- 'alibilaw04.WireReads', WHERE WHAT IT READS IS OF BULK AT MOST 1048576: true; the input reads as it did. -/
def wireReadsUptoRow : OpenClaim := { program := "ytdbmfnhbgacldaadoor", sum := "e96863e1ff65f6288360f6bd80592669bf5444955501b31522f6b3d04b1d41db", func := "alibi/alibilaw04.WireReads", spec := "wireReads", named := ["math/bits.deBruijn32tab"], apart := false, laid := [("math/bits.deBruijn32tab", laid_math_bits_deBruijn32tab)], narrowed := true }
def WireReadsUptoSaid : Prop := wireReadsUptoRow.holds Tryd.pinned (OpenSpec.upto wireReadsSpec)

/-- 'alibilaw04.WireStays', WHERE WHAT IT READS IS OF BULK AT MOST 1048576: true; the input reads as it did. -/
def wireStaysUptoRow : OpenClaim := { program := "ytdbmfnhbgacldaadoor", sum := "e96863e1ff65f6288360f6bd80592669bf5444955501b31522f6b3d04b1d41db", func := "alibi/alibilaw04.WireStays", spec := "wireStays", recurses := true, named := ["math/bits.deBruijn32tab"], apart := false, laid := [("math/bits.deBruijn32tab", laid_math_bits_deBruijn32tab)], narrowed := true }
def WireStaysUptoSaid : Prop := wireStaysUptoRow.holds Tryd.pinned (OpenSpec.upto wireStaysSpec)

/-- 'alibilaw04.WireBack', WHERE WHAT IT READS IS OF BULK AT MOST 1048576: true; the input reads as it did. -/
def wireBackUptoRow : OpenClaim := { program := "ytdbmfnhbgacldaadoor", sum := "e96863e1ff65f6288360f6bd80592669bf5444955501b31522f6b3d04b1d41db", func := "alibi/alibilaw04.WireBack", spec := "wireBack", named := ["math/bits.deBruijn32tab"], apart := false, laid := [("math/bits.deBruijn32tab", laid_math_bits_deBruijn32tab)], narrowed := true }
def WireBackUptoSaid : Prop := wireBackUptoRow.holds Tryd.pinned (OpenSpec.upto wireBackSpec)

/-- 'alibilaw07.PcodeWrites', WHERE WHAT IT READS IS OF BULK AT MOST 1048576: true; the input reads as it did. -/
def pcodeWritesUptoRow : OpenClaim := { program := "ytdbmfnhbgacldaadoor", sum := "e96863e1ff65f6288360f6bd80592669bf5444955501b31522f6b3d04b1d41db", func := "alibi/alibilaw07.PcodeWrites", spec := "pcodeWrites", recurses := true, named := ["alibi/sha.keys"], apart := false, laid := [("alibi/sha.keys", laid_alibi_sha_keys)], narrowed := true }
def PcodeWritesUptoSaid : Prop := pcodeWritesUptoRow.holds Tryd.pinned (OpenSpec.upto pcodeWritesSpec)

/-- 'alibilaw19.CcodeWrites', WHERE WHAT IT READS IS OF BULK AT MOST 1048576: true; the input reads as it did. -/
def ccodeWritesUptoRow : OpenClaim := { program := "ytdbmfnhbgacldaadoor", sum := "e96863e1ff65f6288360f6bd80592669bf5444955501b31522f6b3d04b1d41db", func := "alibi/alibilaw19.CcodeWrites", spec := "ccodeWrites", unfollowed := true, recurses := true, named := ["alibi/sha.keys", "math/bits.deBruijn32tab"], apart := false, laid := [("math/bits.deBruijn32tab", laid_math_bits_deBruijn32tab), ("alibi/sha.keys", laid_alibi_sha_keys)], narrowed := true }
def CcodeWritesUptoSaid : Prop := ccodeWritesUptoRow.holds Tryd.pinned (OpenSpec.upto ccodeWritesSpec)

/-- 'alibilaw19.CcodeAlike', WHERE WHAT IT READS IS OF BULK AT MOST 1048576: true; the input reads as it did. -/
def ccodeAlikeUptoRow : OpenClaim := { program := "ytdbmfnhbgacldaadoor", sum := "e96863e1ff65f6288360f6bd80592669bf5444955501b31522f6b3d04b1d41db", func := "alibi/alibilaw19.CcodeAlike", spec := "ccodeAlike", unfollowed := true, recurses := true, named := ["alibi/sha.keys", "math/bits.deBruijn32tab"], apart := false, laid := [("math/bits.deBruijn32tab", laid_math_bits_deBruijn32tab), ("alibi/sha.keys", laid_alibi_sha_keys)], narrowed := true }
def CcodeAlikeUptoSaid : Prop := ccodeAlikeUptoRow.holds Tryd.pinned (OpenSpec.upto ccodeAlikeSpec)

/-- 'alibilaw19.CcodeReads', WHERE WHAT IT READS IS OF BULK AT MOST 1048576: true; the input reads as it did. -/
def ccodeReadsUptoRow : OpenClaim := { program := "ytdbmfnhbgacldaadoor", sum := "e96863e1ff65f6288360f6bd80592669bf5444955501b31522f6b3d04b1d41db", func := "alibi/alibilaw19.CcodeReads", spec := "ccodeReads", unfollowed := true, recurses := true, named := ["alibi/sha.keys", "math/bits.deBruijn32tab"], apart := false, laid := [("math/bits.deBruijn32tab", laid_math_bits_deBruijn32tab), ("alibi/sha.keys", laid_alibi_sha_keys)], narrowed := true }
def CcodeReadsUptoSaid : Prop := ccodeReadsUptoRow.holds Tryd.pinned (OpenSpec.upto ccodeReadsSpec)

/-- 'alibilaw19.CcodeOnce', WHERE WHAT IT READS IS OF BULK AT MOST 1048576: true; the input reads as it did. -/
def ccodeOnceUptoRow : OpenClaim := { program := "ytdbmfnhbgacldaadoor", sum := "e96863e1ff65f6288360f6bd80592669bf5444955501b31522f6b3d04b1d41db", func := "alibi/alibilaw19.CcodeOnce", spec := "ccodeOnce", unfollowed := true, recurses := true, named := ["alibi/sha.keys", "math/bits.deBruijn32tab"], apart := false, laid := [("math/bits.deBruijn32tab", laid_math_bits_deBruijn32tab), ("alibi/sha.keys", laid_alibi_sha_keys)], narrowed := true }
def CcodeOnceUptoSaid : Prop := ccodeOnceUptoRow.holds Tryd.pinned (OpenSpec.upto ccodeOnceSpec)

/-- 'alibilaw19.CcodeLast', WHERE WHAT IT READS IS OF BULK AT MOST 1048576: true; the input reads as it did. -/
def ccodeLastUptoRow : OpenClaim := { program := "ytdbmfnhbgacldaadoor", sum := "e96863e1ff65f6288360f6bd80592669bf5444955501b31522f6b3d04b1d41db", func := "alibi/alibilaw19.CcodeLast", spec := "ccodeLast", unfollowed := true, recurses := true, named := ["alibi/sha.keys", "math/bits.deBruijn32tab"], apart := false, laid := [("math/bits.deBruijn32tab", laid_math_bits_deBruijn32tab), ("alibi/sha.keys", laid_alibi_sha_keys)], narrowed := true }
def CcodeLastUptoSaid : Prop := ccodeLastUptoRow.holds Tryd.pinned (OpenSpec.upto ccodeLastSpec)

/-- 'alibilaw19.CcodeBack', WHERE WHAT IT READS IS OF BULK AT MOST 1048576: true; the input reads as it did. -/
def ccodeBackUptoRow : OpenClaim := { program := "ytdbmfnhbgacldaadoor", sum := "e96863e1ff65f6288360f6bd80592669bf5444955501b31522f6b3d04b1d41db", func := "alibi/alibilaw19.CcodeBack", spec := "ccodeBack", unfollowed := true, recurses := true, named := ["alibi/sha.keys", "math/bits.deBruijn32tab"], apart := false, laid := [("math/bits.deBruijn32tab", laid_math_bits_deBruijn32tab), ("alibi/sha.keys", laid_alibi_sha_keys)], narrowed := true }
def CcodeBackUptoSaid : Prop := ccodeBackUptoRow.holds Tryd.pinned (OpenSpec.upto ccodeBackSpec)

end Rows
end Go.Proofs.YtdbmfnhbgacldaaDoor
