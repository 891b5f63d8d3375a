/-
  DERIVED. GIVEN WITH THE SEED: THE CARDS: each row of YtfglfhanikpafaaDoorRows.lean that lists a variable, with what it lists TIED to the program's text (the seventh form; the later family's looks); each row that meets fmt, with fmt's text TOLD by the authors' own Lean function (tested against real Go, not proved from fmt's source: count such statements apart). THE CARD IS WHAT COUNTS. Prove the row's statement (the work); the ties are given (YtfglfhanikpafaaDoorTie.lean); close each card by the builder's one call (the guide's Derived/Test/ToyasCard.lean, 'card_holds'). Laid BY PROGRAM, IN A SANDBOX (cutbox-door.mjs). By AI agents, Wed Nov 11 2026. No macro, syntax, notation, axiom, sorry.
-/
import Derived.Test.YtfglfhanikpafaaDoorRows
import GoSem.ClaimSeven
namespace Go.Proofs.YtfglfhanikpafaaDoor
namespace Rows

/-- THE TIED CARD OF 'alibilaw03.SetsOf'. -/
def setsOfCard : Claim7 := { stood := { row := setsOfRow, standIns := [], harness := (true, "e8bd6886b8f9c1e2978b088a9f360e0b9fe25ee4e924e84c9690e1c03b92bde3"), looks := false }, kinds := [], alts := [], laidByText := true, laidKinds := [.data], laidTests := true, laidLooks := .later }
def SetsOfCardSaid : Prop := Claim7.holds Tryd.pinned (.plain (OpenSpec.ofChange setsOfSpec)) setsOfCard

/-- THE TIED CARD OF 'alibilaw03.SetsCount'. -/
def setsCountCard : Claim7 := { stood := { row := setsCountRow, standIns := [], harness := (true, "e8bd6886b8f9c1e2978b088a9f360e0b9fe25ee4e924e84c9690e1c03b92bde3"), looks := false }, kinds := [], alts := [], laidByText := true, laidKinds := [.data], laidTests := true, laidLooks := .later }
def SetsCountCardSaid : Prop := Claim7.holds Tryd.pinned (.plain (OpenSpec.ofChange setsCountSpec)) setsCountCard

/-- THE TIED CARD OF 'alibilaw03.SetsBack'. -/
def setsBackCard : Claim7 := { stood := { row := setsBackRow, standIns := [], harness := (true, "e8bd6886b8f9c1e2978b088a9f360e0b9fe25ee4e924e84c9690e1c03b92bde3"), looks := false }, kinds := [], alts := [], laidByText := true, laidKinds := [.data], laidTests := true, laidLooks := .later }
def SetsBackCardSaid : Prop := Claim7.holds Tryd.pinned (.plain (OpenSpec.ofChange setsBackSpec)) setsBackCard

/-- THE TIED CARD OF 'alibilaw03.SetsOnes'. -/
def setsOnesCard : Claim7 := { stood := { row := setsOnesRow, standIns := [], harness := (true, "e8bd6886b8f9c1e2978b088a9f360e0b9fe25ee4e924e84c9690e1c03b92bde3"), looks := false }, kinds := [], alts := [], laidByText := true, laidKinds := [.data], laidTests := true, laidLooks := .later }
def SetsOnesCardSaid : Prop := Claim7.holds Tryd.pinned (.plain (OpenSpec.ofChange setsOnesSpec)) setsOnesCard

/-- THE TIED CARD OF 'alibilaw03.SetsTell'. -/
def setsTellCard : Claim7 := { stood := { row := setsTellRow, standIns := [], harness := (true, "e8bd6886b8f9c1e2978b088a9f360e0b9fe25ee4e924e84c9690e1c03b92bde3"), looks := false }, kinds := [], alts := [], laidByText := true, laidKinds := [.data], laidTests := true, laidLooks := .later }
def SetsTellCardSaid : Prop := Claim7.holds Tryd.pinned (.plain (OpenSpec.ofChange setsTellSpec)) setsTellCard

/-- THE TIED CARD OF 'alibilaw03.SetsMeet'. -/
def setsMeetCard : Claim7 := { stood := { row := setsMeetRow, standIns := [], harness := (true, "e8bd6886b8f9c1e2978b088a9f360e0b9fe25ee4e924e84c9690e1c03b92bde3"), looks := false }, kinds := [], alts := [], laidByText := true, laidKinds := [.data], laidTests := true, laidLooks := .later }
def SetsMeetCardSaid : Prop := Claim7.holds Tryd.pinned (.plain (OpenSpec.ofChange setsMeetSpec)) setsMeetCard

/-- THE SECOND FORM's CARD OF 'alibilaw03.SetsOf'. -/
def setsOfUptoCard : Claim7 := { stood := { row := setsOfUptoRow, standIns := [], harness := (true, "e8bd6886b8f9c1e2978b088a9f360e0b9fe25ee4e924e84c9690e1c03b92bde3"), looks := false }, kinds := [], alts := [], laidByText := true, laidKinds := [.data], laidTests := true, laidLooks := .later }
def SetsOfUptoCardSaid : Prop := Claim7.holds Tryd.pinned (.plain (OpenSpec.upto setsOfSpec)) setsOfUptoCard

/-- THE SECOND FORM's CARD OF 'alibilaw03.SetsCount'. -/
def setsCountUptoCard : Claim7 := { stood := { row := setsCountUptoRow, standIns := [], harness := (true, "e8bd6886b8f9c1e2978b088a9f360e0b9fe25ee4e924e84c9690e1c03b92bde3"), looks := false }, kinds := [], alts := [], laidByText := true, laidKinds := [.data], laidTests := true, laidLooks := .later }
def SetsCountUptoCardSaid : Prop := Claim7.holds Tryd.pinned (.plain (OpenSpec.upto setsCountSpec)) setsCountUptoCard

/-- THE SECOND FORM's CARD OF 'alibilaw03.SetsBack'. -/
def setsBackUptoCard : Claim7 := { stood := { row := setsBackUptoRow, standIns := [], harness := (true, "e8bd6886b8f9c1e2978b088a9f360e0b9fe25ee4e924e84c9690e1c03b92bde3"), looks := false }, kinds := [], alts := [], laidByText := true, laidKinds := [.data], laidTests := true, laidLooks := .later }
def SetsBackUptoCardSaid : Prop := Claim7.holds Tryd.pinned (.plain (OpenSpec.upto setsBackSpec)) setsBackUptoCard

/-- THE SECOND FORM's CARD OF 'alibilaw03.SetsOnes'. -/
def setsOnesUptoCard : Claim7 := { stood := { row := setsOnesUptoRow, standIns := [], harness := (true, "e8bd6886b8f9c1e2978b088a9f360e0b9fe25ee4e924e84c9690e1c03b92bde3"), looks := false }, kinds := [], alts := [], laidByText := true, laidKinds := [.data], laidTests := true, laidLooks := .later }
def SetsOnesUptoCardSaid : Prop := Claim7.holds Tryd.pinned (.plain (OpenSpec.upto setsOnesSpec)) setsOnesUptoCard

/-- THE SECOND FORM's CARD OF 'alibilaw03.SetsTell'. -/
def setsTellUptoCard : Claim7 := { stood := { row := setsTellUptoRow, standIns := [], harness := (true, "e8bd6886b8f9c1e2978b088a9f360e0b9fe25ee4e924e84c9690e1c03b92bde3"), looks := false }, kinds := [], alts := [], laidByText := true, laidKinds := [.data], laidTests := true, laidLooks := .later }
def SetsTellUptoCardSaid : Prop := Claim7.holds Tryd.pinned (.plain (OpenSpec.upto setsTellSpec)) setsTellUptoCard

/-- THE SECOND FORM's CARD OF 'alibilaw03.SetsMeet'. -/
def setsMeetUptoCard : Claim7 := { stood := { row := setsMeetUptoRow, standIns := [], harness := (true, "e8bd6886b8f9c1e2978b088a9f360e0b9fe25ee4e924e84c9690e1c03b92bde3"), looks := false }, kinds := [], alts := [], laidByText := true, laidKinds := [.data], laidTests := true, laidLooks := .later }
def SetsMeetUptoCardSaid : Prop := Claim7.holds Tryd.pinned (.plain (OpenSpec.upto setsMeetSpec)) setsMeetUptoCard
end Rows
end Go.Proofs.YtfglfhanikpafaaDoor
