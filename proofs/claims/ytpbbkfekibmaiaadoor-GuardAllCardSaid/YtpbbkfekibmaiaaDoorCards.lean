/-
  DERIVED. GIVEN WITH THE SEED: THE CARDS: each row of YtpbbkfekibmaiaaDoorRows.lean that lists a variable, with what it lists TIED to the program's text (the seventh form; the later family's looks); each row that meets fmt, with fmt's text TOLD by the authors' own Lean function (tested against real Go, not proved from fmt's source: count such statements apart). THE CARD IS WHAT COUNTS. Prove the row's statement (the work); the ties are given (YtpbbkfekibmaiaaDoorTie.lean); close each card by the builder's one call (the guide's Derived/Test/ToyasCard.lean, 'card_holds'). Laid BY PROGRAM, IN A SANDBOX (cutbox-door.mjs). By AI agents, Wed Nov 11 2026. No macro, syntax, notation, axiom, sorry.
-/
import Derived.Test.YtpbbkfekibmaiaaDoorRows
import GoSem.ClaimSeven
namespace Go.Proofs.YtpbbkfekibmaiaaDoor
namespace Rows

/-- THE TIED CARD OF 'alibilaw17.GuardBest'. -/
def guardBestCard : Claim7 := { stood := { row := guardBestRow, standIns := [], harness := (true, "ac45b1c33eeb2fdba44792b621a9b54636ae8b7bb0cf9023f007bd1d3d5e9670"), looks := false }, kinds := [], alts := [], laidByText := true, laidKinds := [.data], laidTests := true, laidLooks := .later }
def GuardBestCardSaid : Prop := Claim7.holds Tryd.pinned (.plain (OpenSpec.ofChange guardBestSpec)) guardBestCard

/-- THE TIED CARD OF 'alibilaw17.GuardNeeds'. -/
def guardNeedsCard : Claim7 := { stood := { row := guardNeedsRow, standIns := [], harness := (true, "ac45b1c33eeb2fdba44792b621a9b54636ae8b7bb0cf9023f007bd1d3d5e9670"), looks := false }, kinds := [], alts := [], laidByText := true, laidKinds := [.data], laidTests := true, laidLooks := .later }
def GuardNeedsCardSaid : Prop := Claim7.holds Tryd.pinned (.plain (OpenSpec.ofChange guardNeedsSpec)) guardNeedsCard

/-- THE TIED CARD OF 'alibilaw17.GuardMore'. -/
def guardMoreCard : Claim7 := { stood := { row := guardMoreRow, standIns := [], harness := (true, "ac45b1c33eeb2fdba44792b621a9b54636ae8b7bb0cf9023f007bd1d3d5e9670"), looks := false }, kinds := [], alts := [], laidByText := true, laidKinds := [.data], laidTests := true, laidLooks := .later }
def GuardMoreCardSaid : Prop := Claim7.holds Tryd.pinned (.plain (OpenSpec.ofChange guardMoreSpec)) guardMoreCard

/-- THE TIED CARD OF 'alibilaw17.GuardHolds'. -/
def guardHoldsCard : Claim7 := { stood := { row := guardHoldsRow, standIns := [], harness := (true, "ac45b1c33eeb2fdba44792b621a9b54636ae8b7bb0cf9023f007bd1d3d5e9670"), looks := false }, kinds := [], alts := [], laidByText := true, laidKinds := [.data], laidTests := true, laidLooks := .later }
def GuardHoldsCardSaid : Prop := Claim7.holds Tryd.pinned (.plain (OpenSpec.ofChange guardHoldsSpec)) guardHoldsCard

/-- THE TIED CARD OF 'alibilaw17.GuardChecks'. -/
def guardChecksCard : Claim7 := { stood := { row := guardChecksRow, standIns := [], harness := (true, "ac45b1c33eeb2fdba44792b621a9b54636ae8b7bb0cf9023f007bd1d3d5e9670"), looks := false }, kinds := [], alts := [], laidByText := true, laidKinds := [.data], laidTests := true, laidLooks := .later }
def GuardChecksCardSaid : Prop := Claim7.holds Tryd.pinned (.plain (OpenSpec.ofChange guardChecksSpec)) guardChecksCard

/-- THE TIED CARD OF 'alibilaw17.GuardAll'. -/
def guardAllCard : Claim7 := { stood := { row := guardAllRow, standIns := [], harness := (true, "ac45b1c33eeb2fdba44792b621a9b54636ae8b7bb0cf9023f007bd1d3d5e9670"), looks := false }, kinds := [], alts := [], laidByText := true, laidKinds := [.data], laidTests := true, laidLooks := .later }
def GuardAllCardSaid : Prop := Claim7.holds Tryd.pinned (.plain (OpenSpec.ofChange guardAllSpec)) guardAllCard

/-- THE SECOND FORM's CARD OF 'alibilaw17.GuardBest'. -/
def guardBestUptoCard : Claim7 := { stood := { row := guardBestUptoRow, standIns := [], harness := (true, "ac45b1c33eeb2fdba44792b621a9b54636ae8b7bb0cf9023f007bd1d3d5e9670"), looks := false }, kinds := [], alts := [], laidByText := true, laidKinds := [.data], laidTests := true, laidLooks := .later }
def GuardBestUptoCardSaid : Prop := Claim7.holds Tryd.pinned (.plain (OpenSpec.upto guardBestSpec)) guardBestUptoCard

/-- THE SECOND FORM's CARD OF 'alibilaw17.GuardNeeds'. -/
def guardNeedsUptoCard : Claim7 := { stood := { row := guardNeedsUptoRow, standIns := [], harness := (true, "ac45b1c33eeb2fdba44792b621a9b54636ae8b7bb0cf9023f007bd1d3d5e9670"), looks := false }, kinds := [], alts := [], laidByText := true, laidKinds := [.data], laidTests := true, laidLooks := .later }
def GuardNeedsUptoCardSaid : Prop := Claim7.holds Tryd.pinned (.plain (OpenSpec.upto guardNeedsSpec)) guardNeedsUptoCard

/-- THE SECOND FORM's CARD OF 'alibilaw17.GuardMore'. -/
def guardMoreUptoCard : Claim7 := { stood := { row := guardMoreUptoRow, standIns := [], harness := (true, "ac45b1c33eeb2fdba44792b621a9b54636ae8b7bb0cf9023f007bd1d3d5e9670"), looks := false }, kinds := [], alts := [], laidByText := true, laidKinds := [.data], laidTests := true, laidLooks := .later }
def GuardMoreUptoCardSaid : Prop := Claim7.holds Tryd.pinned (.plain (OpenSpec.upto guardMoreSpec)) guardMoreUptoCard

/-- THE SECOND FORM's CARD OF 'alibilaw17.GuardHolds'. -/
def guardHoldsUptoCard : Claim7 := { stood := { row := guardHoldsUptoRow, standIns := [], harness := (true, "ac45b1c33eeb2fdba44792b621a9b54636ae8b7bb0cf9023f007bd1d3d5e9670"), looks := false }, kinds := [], alts := [], laidByText := true, laidKinds := [.data], laidTests := true, laidLooks := .later }
def GuardHoldsUptoCardSaid : Prop := Claim7.holds Tryd.pinned (.plain (OpenSpec.upto guardHoldsSpec)) guardHoldsUptoCard

/-- THE SECOND FORM's CARD OF 'alibilaw17.GuardChecks'. -/
def guardChecksUptoCard : Claim7 := { stood := { row := guardChecksUptoRow, standIns := [], harness := (true, "ac45b1c33eeb2fdba44792b621a9b54636ae8b7bb0cf9023f007bd1d3d5e9670"), looks := false }, kinds := [], alts := [], laidByText := true, laidKinds := [.data], laidTests := true, laidLooks := .later }
def GuardChecksUptoCardSaid : Prop := Claim7.holds Tryd.pinned (.plain (OpenSpec.upto guardChecksSpec)) guardChecksUptoCard

/-- THE SECOND FORM's CARD OF 'alibilaw17.GuardAll'. -/
def guardAllUptoCard : Claim7 := { stood := { row := guardAllUptoRow, standIns := [], harness := (true, "ac45b1c33eeb2fdba44792b621a9b54636ae8b7bb0cf9023f007bd1d3d5e9670"), looks := false }, kinds := [], alts := [], laidByText := true, laidKinds := [.data], laidTests := true, laidLooks := .later }
def GuardAllUptoCardSaid : Prop := Claim7.holds Tryd.pinned (.plain (OpenSpec.upto guardAllSpec)) guardAllUptoCard
end Rows
end Go.Proofs.YtpbbkfekibmaiaaDoor
