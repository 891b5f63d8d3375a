/-
  DERIVED. GIVEN WITH THE SEED: THE CARDS: each row of YtdbmfnhbgacldaaDoorRows.lean that lists a variable, with what it lists TIED to the program's text (the seventh form; the later family's looks); each row that meets fmt, with fmt's text TOLD by the authors' own Lean function (tested against real Go, not proved from fmt's source: count such statements apart). THE CARD IS WHAT COUNTS. Prove the row's statement (the work); the ties are given (YtdbmfnhbgacldaaDoorTie.lean); close each card by the builder's one call (the guide's Derived/Test/ToyasCard.lean, 'card_holds'). Laid BY PROGRAM, IN A SANDBOX (cutbox-door.mjs). By AI agents, Wed Nov 11 2026. No macro, syntax, notation, axiom, sorry.
-/
import Derived.Test.YtdbmfnhbgacldaaDoorRows
import GoSem.ClaimSeven
namespace Go.Proofs.YtdbmfnhbgacldaaDoor
namespace Rows

/-- THE TIED CARD OF 'alibilaw04.WireWrites'. -/
def wireWritesCard : Claim7 := { stood := { row := wireWritesRow, standIns := [], harness := (true, "4cee3722885666376d22a5d816f178b4e8f67dfbbefb0a260780290ec2c0ed8c"), looks := false }, kinds := [], alts := [], laidByText := true, laidKinds := [.data], laidTests := true, laidLooks := .later }
def WireWritesCardSaid : Prop := Claim7.holds Tryd.pinned (.plain (OpenSpec.ofChange wireWritesSpec)) wireWritesCard

/-- THE TIED CARD OF 'alibilaw04.WireReads'. -/
def wireReadsCard : Claim7 := { stood := { row := wireReadsRow, standIns := [], harness := (true, "4cee3722885666376d22a5d816f178b4e8f67dfbbefb0a260780290ec2c0ed8c"), looks := false }, kinds := [], alts := [], laidByText := true, laidKinds := [.data], laidTests := true, laidLooks := .later }
def WireReadsCardSaid : Prop := Claim7.holds Tryd.pinned (.plain (OpenSpec.ofChange wireReadsSpec)) wireReadsCard

/-- THE TIED CARD OF 'alibilaw04.WireStays'. -/
def wireStaysCard : Claim7 := { stood := { row := wireStaysRow, standIns := [], harness := (true, "4cee3722885666376d22a5d816f178b4e8f67dfbbefb0a260780290ec2c0ed8c"), looks := false }, kinds := [], alts := [], laidByText := true, laidKinds := [.data], laidTests := true, laidLooks := .later }
def WireStaysCardSaid : Prop := Claim7.holds Tryd.pinned (.plain (OpenSpec.ofChange wireStaysSpec)) wireStaysCard

/-- THE TIED CARD OF 'alibilaw04.WireBack'. -/
def wireBackCard : Claim7 := { stood := { row := wireBackRow, standIns := [], harness := (true, "4cee3722885666376d22a5d816f178b4e8f67dfbbefb0a260780290ec2c0ed8c"), looks := false }, kinds := [], alts := [], laidByText := true, laidKinds := [.data], laidTests := true, laidLooks := .later }
def WireBackCardSaid : Prop := Claim7.holds Tryd.pinned (.plain (OpenSpec.ofChange wireBackSpec)) wireBackCard

/-- THE TIED CARD OF 'alibilaw07.PcodeWrites'. -/
def pcodeWritesCard : Claim7 := { stood := { row := pcodeWritesRow, standIns := [], harness := (true, "4cee3722885666376d22a5d816f178b4e8f67dfbbefb0a260780290ec2c0ed8c"), looks := false }, kinds := [], alts := [], laidByText := true, laidKinds := [.data], laidTests := true, laidLooks := .later }
def PcodeWritesCardSaid : Prop := Claim7.holds Tryd.pinned (.plain (OpenSpec.ofChange pcodeWritesSpec)) pcodeWritesCard

/-- THE TIED CARD OF 'alibilaw19.CcodeWrites'. -/
def ccodeWritesCard : Claim7 := { stood := { row := ccodeWritesRow, standIns := [], harness := (true, "4cee3722885666376d22a5d816f178b4e8f67dfbbefb0a260780290ec2c0ed8c"), looks := false }, kinds := [], alts := [], laidByText := true, laidKinds := [.data, .data], laidTests := true, laidLooks := .later }
def CcodeWritesCardSaid : Prop := Claim7.holds Tryd.pinned (.plain (OpenSpec.ofChange ccodeWritesSpec)) ccodeWritesCard

/-- THE TIED CARD OF 'alibilaw19.CcodeAlike'. -/
def ccodeAlikeCard : Claim7 := { stood := { row := ccodeAlikeRow, standIns := [], harness := (true, "4cee3722885666376d22a5d816f178b4e8f67dfbbefb0a260780290ec2c0ed8c"), looks := false }, kinds := [], alts := [], laidByText := true, laidKinds := [.data, .data], laidTests := true, laidLooks := .later }
def CcodeAlikeCardSaid : Prop := Claim7.holds Tryd.pinned (.plain (OpenSpec.ofChange ccodeAlikeSpec)) ccodeAlikeCard

/-- THE TIED CARD OF 'alibilaw19.CcodeReads'. -/
def ccodeReadsCard : Claim7 := { stood := { row := ccodeReadsRow, standIns := [], harness := (true, "4cee3722885666376d22a5d816f178b4e8f67dfbbefb0a260780290ec2c0ed8c"), looks := false }, kinds := [], alts := [], laidByText := true, laidKinds := [.data, .data], laidTests := true, laidLooks := .later }
def CcodeReadsCardSaid : Prop := Claim7.holds Tryd.pinned (.plain (OpenSpec.ofChange ccodeReadsSpec)) ccodeReadsCard

/-- THE TIED CARD OF 'alibilaw19.CcodeOnce'. -/
def ccodeOnceCard : Claim7 := { stood := { row := ccodeOnceRow, standIns := [], harness := (true, "4cee3722885666376d22a5d816f178b4e8f67dfbbefb0a260780290ec2c0ed8c"), looks := false }, kinds := [], alts := [], laidByText := true, laidKinds := [.data, .data], laidTests := true, laidLooks := .later }
def CcodeOnceCardSaid : Prop := Claim7.holds Tryd.pinned (.plain (OpenSpec.ofChange ccodeOnceSpec)) ccodeOnceCard

/-- THE TIED CARD OF 'alibilaw19.CcodeLast'. -/
def ccodeLastCard : Claim7 := { stood := { row := ccodeLastRow, standIns := [], harness := (true, "4cee3722885666376d22a5d816f178b4e8f67dfbbefb0a260780290ec2c0ed8c"), looks := false }, kinds := [], alts := [], laidByText := true, laidKinds := [.data, .data], laidTests := true, laidLooks := .later }
def CcodeLastCardSaid : Prop := Claim7.holds Tryd.pinned (.plain (OpenSpec.ofChange ccodeLastSpec)) ccodeLastCard

/-- THE TIED CARD OF 'alibilaw19.CcodeBack'. -/
def ccodeBackCard : Claim7 := { stood := { row := ccodeBackRow, standIns := [], harness := (true, "4cee3722885666376d22a5d816f178b4e8f67dfbbefb0a260780290ec2c0ed8c"), looks := false }, kinds := [], alts := [], laidByText := true, laidKinds := [.data, .data], laidTests := true, laidLooks := .later }
def CcodeBackCardSaid : Prop := Claim7.holds Tryd.pinned (.plain (OpenSpec.ofChange ccodeBackSpec)) ccodeBackCard

/-- THE SECOND FORM's CARD OF 'alibilaw04.WireWrites'. -/
def wireWritesUptoCard : Claim7 := { stood := { row := wireWritesUptoRow, standIns := [], harness := (true, "4cee3722885666376d22a5d816f178b4e8f67dfbbefb0a260780290ec2c0ed8c"), looks := false }, kinds := [], alts := [], laidByText := true, laidKinds := [.data], laidTests := true, laidLooks := .later }
def WireWritesUptoCardSaid : Prop := Claim7.holds Tryd.pinned (.plain (OpenSpec.upto wireWritesSpec)) wireWritesUptoCard

/-- THE SECOND FORM's CARD OF 'alibilaw04.WireReads'. -/
def wireReadsUptoCard : Claim7 := { stood := { row := wireReadsUptoRow, standIns := [], harness := (true, "4cee3722885666376d22a5d816f178b4e8f67dfbbefb0a260780290ec2c0ed8c"), looks := false }, kinds := [], alts := [], laidByText := true, laidKinds := [.data], laidTests := true, laidLooks := .later }
def WireReadsUptoCardSaid : Prop := Claim7.holds Tryd.pinned (.plain (OpenSpec.upto wireReadsSpec)) wireReadsUptoCard

/-- THE SECOND FORM's CARD OF 'alibilaw04.WireStays'. -/
def wireStaysUptoCard : Claim7 := { stood := { row := wireStaysUptoRow, standIns := [], harness := (true, "4cee3722885666376d22a5d816f178b4e8f67dfbbefb0a260780290ec2c0ed8c"), looks := false }, kinds := [], alts := [], laidByText := true, laidKinds := [.data], laidTests := true, laidLooks := .later }
def WireStaysUptoCardSaid : Prop := Claim7.holds Tryd.pinned (.plain (OpenSpec.upto wireStaysSpec)) wireStaysUptoCard

/-- THE SECOND FORM's CARD OF 'alibilaw04.WireBack'. -/
def wireBackUptoCard : Claim7 := { stood := { row := wireBackUptoRow, standIns := [], harness := (true, "4cee3722885666376d22a5d816f178b4e8f67dfbbefb0a260780290ec2c0ed8c"), looks := false }, kinds := [], alts := [], laidByText := true, laidKinds := [.data], laidTests := true, laidLooks := .later }
def WireBackUptoCardSaid : Prop := Claim7.holds Tryd.pinned (.plain (OpenSpec.upto wireBackSpec)) wireBackUptoCard

/-- THE SECOND FORM's CARD OF 'alibilaw07.PcodeWrites'. -/
def pcodeWritesUptoCard : Claim7 := { stood := { row := pcodeWritesUptoRow, standIns := [], harness := (true, "4cee3722885666376d22a5d816f178b4e8f67dfbbefb0a260780290ec2c0ed8c"), looks := false }, kinds := [], alts := [], laidByText := true, laidKinds := [.data], laidTests := true, laidLooks := .later }
def PcodeWritesUptoCardSaid : Prop := Claim7.holds Tryd.pinned (.plain (OpenSpec.upto pcodeWritesSpec)) pcodeWritesUptoCard

/-- THE SECOND FORM's CARD OF 'alibilaw19.CcodeWrites'. -/
def ccodeWritesUptoCard : Claim7 := { stood := { row := ccodeWritesUptoRow, standIns := [], harness := (true, "4cee3722885666376d22a5d816f178b4e8f67dfbbefb0a260780290ec2c0ed8c"), looks := false }, kinds := [], alts := [], laidByText := true, laidKinds := [.data, .data], laidTests := true, laidLooks := .later }
def CcodeWritesUptoCardSaid : Prop := Claim7.holds Tryd.pinned (.plain (OpenSpec.upto ccodeWritesSpec)) ccodeWritesUptoCard

/-- THE SECOND FORM's CARD OF 'alibilaw19.CcodeAlike'. -/
def ccodeAlikeUptoCard : Claim7 := { stood := { row := ccodeAlikeUptoRow, standIns := [], harness := (true, "4cee3722885666376d22a5d816f178b4e8f67dfbbefb0a260780290ec2c0ed8c"), looks := false }, kinds := [], alts := [], laidByText := true, laidKinds := [.data, .data], laidTests := true, laidLooks := .later }
def CcodeAlikeUptoCardSaid : Prop := Claim7.holds Tryd.pinned (.plain (OpenSpec.upto ccodeAlikeSpec)) ccodeAlikeUptoCard

/-- THE SECOND FORM's CARD OF 'alibilaw19.CcodeReads'. -/
def ccodeReadsUptoCard : Claim7 := { stood := { row := ccodeReadsUptoRow, standIns := [], harness := (true, "4cee3722885666376d22a5d816f178b4e8f67dfbbefb0a260780290ec2c0ed8c"), looks := false }, kinds := [], alts := [], laidByText := true, laidKinds := [.data, .data], laidTests := true, laidLooks := .later }
def CcodeReadsUptoCardSaid : Prop := Claim7.holds Tryd.pinned (.plain (OpenSpec.upto ccodeReadsSpec)) ccodeReadsUptoCard

/-- THE SECOND FORM's CARD OF 'alibilaw19.CcodeOnce'. -/
def ccodeOnceUptoCard : Claim7 := { stood := { row := ccodeOnceUptoRow, standIns := [], harness := (true, "4cee3722885666376d22a5d816f178b4e8f67dfbbefb0a260780290ec2c0ed8c"), looks := false }, kinds := [], alts := [], laidByText := true, laidKinds := [.data, .data], laidTests := true, laidLooks := .later }
def CcodeOnceUptoCardSaid : Prop := Claim7.holds Tryd.pinned (.plain (OpenSpec.upto ccodeOnceSpec)) ccodeOnceUptoCard

/-- THE SECOND FORM's CARD OF 'alibilaw19.CcodeLast'. -/
def ccodeLastUptoCard : Claim7 := { stood := { row := ccodeLastUptoRow, standIns := [], harness := (true, "4cee3722885666376d22a5d816f178b4e8f67dfbbefb0a260780290ec2c0ed8c"), looks := false }, kinds := [], alts := [], laidByText := true, laidKinds := [.data, .data], laidTests := true, laidLooks := .later }
def CcodeLastUptoCardSaid : Prop := Claim7.holds Tryd.pinned (.plain (OpenSpec.upto ccodeLastSpec)) ccodeLastUptoCard

/-- THE SECOND FORM's CARD OF 'alibilaw19.CcodeBack'. -/
def ccodeBackUptoCard : Claim7 := { stood := { row := ccodeBackUptoRow, standIns := [], harness := (true, "4cee3722885666376d22a5d816f178b4e8f67dfbbefb0a260780290ec2c0ed8c"), looks := false }, kinds := [], alts := [], laidByText := true, laidKinds := [.data, .data], laidTests := true, laidLooks := .later }
def CcodeBackUptoCardSaid : Prop := Claim7.holds Tryd.pinned (.plain (OpenSpec.upto ccodeBackSpec)) ccodeBackUptoCard
end Rows
end Go.Proofs.YtdbmfnhbgacldaaDoor
