/-
  No cell of these rows narrows 'for every input' (looked for: loops, veiled, ifaces, maps, wideKeys, modest, calm, conditions, laid).
  DERIVED. THE GIVEN ROWS OF THIS SEAT. 22 by the template 'for every input the law returns true; each argument reads behind the call as it read before'; 0 by the template 'total and deterministic' (their statements: YtiikndppckjmhaaTotals.lean).
  GIVEN WITH THE SEED: the statements are not yours to turn. If you find one false, say at which input.
  Laid BY PROGRAM, IN A SANDBOX (cutbox-rows.mjs): the forced cells as the released guide's own fill.sh prints them over the translation 82ce8f898866cbba… (all of the seat's roots in one cut). By AI agents, Wed Nov 11 2026. No macro, syntax, notation, axiom, sorry.
-/
import Derived.Test.YtiikndppckjmhaaChecked
import GoSem.Claim
import GoSem.ClaimJoined
import GoSem.ClaimMapViews
import Derived.JoinedTies
import Derived.KernelRfl
namespace Go.Proofs.Ytiikndppckjmhaa
/- THE CELL 'sum', in the pinned program and in every row, IS THE sha256 OF THE DUMP (.gsa) THAT YtiikndppckjmhaaProg.lean LOADS. Nothing in Lean hashes anything: it is a label: what it is worth is what the hold of that sum in a sandbox is worth. -/
noncomputable def Try.pinned : Pinned := { name := "ytiikndppckjmhaa", sum := "82ce8f898866cbbab78f877f55ccd541909e8d68740dd9f6fe5e89660cee695b", checked := Try.checked }
namespace Rows
def none {H : Type} : Left H := { results := [], args := [] }

/-- 'alibilaw09.SemPlays': WHATEVER THE INPUT: true; the input reads as it did. -/
def semPlaysSpec : ChangeSpec := { name := "semPlays", fn := fun _ => fun
  | [d1, d2, d3] => { results := [.lit (.bool true)], args := [d1, d2, d3] }
  | _ => none }
def semPlaysRow : OpenClaim := { program := "ytiikndppckjmhaa", sum := "82ce8f898866cbbab78f877f55ccd541909e8d68740dd9f6fe5e89660cee695b", func := "alibi/alibilaw09.SemPlays", spec := "semPlays", unfollowed := true, recurses := true, apart := false }
def SemPlaysSaid : Prop := semPlaysRow.holds Try.pinned (OpenSpec.ofChange semPlaysSpec)

/-- ITS FALSE NEIGHBOUR: 'it returns false'. Refute it at one input. -/
def semPlaysWrong : ChangeSpec := { name := "semPlays", fn := fun _ => fun
  | [d1, d2, d3] => { results := [.lit (.bool false)], args := [d1, d2, d3] }
  | _ => none }
def SemPlaysWrongFalsely : Prop := semPlaysRow.holds Try.pinned (OpenSpec.ofChange semPlaysWrong)

/-- 'alibilaw09.SemHolds': WHATEVER THE INPUT: true; the input reads as it did. -/
def semHoldsSpec : ChangeSpec := { name := "semHolds", fn := fun _ => fun
  | [d1, d2] => { results := [.lit (.bool true)], args := [d1, d2] }
  | _ => none }
def semHoldsRow : OpenClaim := { program := "ytiikndppckjmhaa", sum := "82ce8f898866cbbab78f877f55ccd541909e8d68740dd9f6fe5e89660cee695b", func := "alibi/alibilaw09.SemHolds", spec := "semHolds", unfollowed := true, recurses := true, apart := false }
def SemHoldsSaid : Prop := semHoldsRow.holds Try.pinned (OpenSpec.ofChange semHoldsSpec)

/-- ITS FALSE NEIGHBOUR: 'it returns false'. Refute it at one input. -/
def semHoldsWrong : ChangeSpec := { name := "semHolds", fn := fun _ => fun
  | [d1, d2] => { results := [.lit (.bool false)], args := [d1, d2] }
  | _ => none }
def SemHoldsWrongFalsely : Prop := semHoldsRow.holds Try.pinned (OpenSpec.ofChange semHoldsWrong)

/-- 'alibilaw09.SemLocks': WHATEVER THE INPUT: true; the input reads as it did. -/
def semLocksSpec : ChangeSpec := { name := "semLocks", fn := fun _ => fun
  | [d1, d2] => { results := [.lit (.bool true)], args := [d1, d2] }
  | _ => none }
def semLocksRow : OpenClaim := { program := "ytiikndppckjmhaa", sum := "82ce8f898866cbbab78f877f55ccd541909e8d68740dd9f6fe5e89660cee695b", func := "alibi/alibilaw09.SemLocks", spec := "semLocks", unfollowed := true, recurses := true, apart := false }
def SemLocksSaid : Prop := semLocksRow.holds Try.pinned (OpenSpec.ofChange semLocksSpec)

/-- ITS FALSE NEIGHBOUR: 'it returns false'. Refute it at one input. -/
def semLocksWrong : ChangeSpec := { name := "semLocks", fn := fun _ => fun
  | [d1, d2] => { results := [.lit (.bool false)], args := [d1, d2] }
  | _ => none }
def SemLocksWrongFalsely : Prop := semLocksRow.holds Try.pinned (OpenSpec.ofChange semLocksWrong)

/-- 'alibilaw10.RaceReads': WHATEVER THE INPUT: true; the input reads as it did. -/
def raceReadsSpec : ChangeSpec := { name := "raceReads", fn := fun _ => fun
  | [d1, d2] => { results := [.lit (.bool true)], args := [d1, d2] }
  | _ => none }
def raceReadsRow : OpenClaim := { program := "ytiikndppckjmhaa", sum := "82ce8f898866cbbab78f877f55ccd541909e8d68740dd9f6fe5e89660cee695b", func := "alibi/alibilaw10.RaceReads", spec := "raceReads", unfollowed := true, recurses := true, apart := false }
def RaceReadsSaid : Prop := raceReadsRow.holds Try.pinned (OpenSpec.ofChange raceReadsSpec)

/-- ITS FALSE NEIGHBOUR: 'it returns false'. Refute it at one input. -/
def raceReadsWrong : ChangeSpec := { name := "raceReads", fn := fun _ => fun
  | [d1, d2] => { results := [.lit (.bool false)], args := [d1, d2] }
  | _ => none }
def RaceReadsWrongFalsely : Prop := raceReadsRow.holds Try.pinned (OpenSpec.ofChange raceReadsWrong)

/-- 'alibilaw09.SemSame': WHATEVER THE INPUT: true; the input reads as it did. -/
def semSameSpec : ChangeSpec := { name := "semSame", fn := fun _ => fun
  | [d1, d2, d3] => { results := [.lit (.bool true)], args := [d1, d2, d3] }
  | _ => none }
def semSameRow : OpenClaim := { program := "ytiikndppckjmhaa", sum := "82ce8f898866cbbab78f877f55ccd541909e8d68740dd9f6fe5e89660cee695b", func := "alibi/alibilaw09.SemSame", spec := "semSame", unfollowed := true, recurses := true, apart := false }
def SemSameSaid : Prop := semSameRow.holds Try.pinned (OpenSpec.ofChange semSameSpec)

/-- ITS FALSE NEIGHBOUR: 'it returns false'. Refute it at one input. -/
def semSameWrong : ChangeSpec := { name := "semSame", fn := fun _ => fun
  | [d1, d2, d3] => { results := [.lit (.bool false)], args := [d1, d2, d3] }
  | _ => none }
def SemSameWrongFalsely : Prop := semSameRow.holds Try.pinned (OpenSpec.ofChange semSameWrong)

/-- 'alibilaw09.SemWay': WHATEVER THE INPUT: true; the input reads as it did. -/
def semWaySpec : ChangeSpec := { name := "semWay", fn := fun _ => fun
  | [d1, d2, d3] => { results := [.lit (.bool true)], args := [d1, d2, d3] }
  | _ => none }
def semWayRow : OpenClaim := { program := "ytiikndppckjmhaa", sum := "82ce8f898866cbbab78f877f55ccd541909e8d68740dd9f6fe5e89660cee695b", func := "alibi/alibilaw09.SemWay", spec := "semWay", unfollowed := true, recurses := true, apart := false }
def SemWaySaid : Prop := semWayRow.holds Try.pinned (OpenSpec.ofChange semWaySpec)

/-- ITS FALSE NEIGHBOUR: 'it returns false'. Refute it at one input. -/
def semWayWrong : ChangeSpec := { name := "semWay", fn := fun _ => fun
  | [d1, d2, d3] => { results := [.lit (.bool false)], args := [d1, d2, d3] }
  | _ => none }
def SemWayWrongFalsely : Prop := semWayRow.holds Try.pinned (OpenSpec.ofChange semWayWrong)

/-- 'alibilaw10.RaceTells': WHATEVER THE INPUT: true; the input reads as it did. -/
def raceTellsSpec : ChangeSpec := { name := "raceTells", fn := fun _ => fun
  | [d1, d2, d3, d4, d5] => { results := [.lit (.bool true)], args := [d1, d2, d3, d4, d5] }
  | _ => none }
def raceTellsRow : OpenClaim := { program := "ytiikndppckjmhaa", sum := "82ce8f898866cbbab78f877f55ccd541909e8d68740dd9f6fe5e89660cee695b", func := "alibi/alibilaw10.RaceTells", spec := "raceTells", unfollowed := true, recurses := true, apart := false }
def RaceTellsSaid : Prop := raceTellsRow.holds Try.pinned (OpenSpec.ofChange raceTellsSpec)

/-- ITS FALSE NEIGHBOUR: 'it returns false'. Refute it at one input. -/
def raceTellsWrong : ChangeSpec := { name := "raceTells", fn := fun _ => fun
  | [d1, d2, d3, d4, d5] => { results := [.lit (.bool false)], args := [d1, d2, d3, d4, d5] }
  | _ => none }
def RaceTellsWrongFalsely : Prop := raceTellsRow.holds Try.pinned (OpenSpec.ofChange raceTellsWrong)

/-- 'alibilaw10.RaceBoth': WHATEVER THE INPUT: true; the input reads as it did. -/
def raceBothSpec : ChangeSpec := { name := "raceBoth", fn := fun _ => fun
  | [d1, d2] => { results := [.lit (.bool true)], args := [d1, d2] }
  | _ => none }
def raceBothRow : OpenClaim := { program := "ytiikndppckjmhaa", sum := "82ce8f898866cbbab78f877f55ccd541909e8d68740dd9f6fe5e89660cee695b", func := "alibi/alibilaw10.RaceBoth", spec := "raceBoth", unfollowed := true, recurses := true, apart := false }
def RaceBothSaid : Prop := raceBothRow.holds Try.pinned (OpenSpec.ofChange raceBothSpec)

/-- ITS FALSE NEIGHBOUR: 'it returns false'. Refute it at one input. -/
def raceBothWrong : ChangeSpec := { name := "raceBoth", fn := fun _ => fun
  | [d1, d2] => { results := [.lit (.bool false)], args := [d1, d2] }
  | _ => none }
def RaceBothWrongFalsely : Prop := raceBothRow.holds Try.pinned (OpenSpec.ofChange raceBothWrong)

/-- 'alibilaw10.RaceMore': WHATEVER THE INPUT: true; the input reads as it did. -/
def raceMoreSpec : ChangeSpec := { name := "raceMore", fn := fun _ => fun
  | [d1, d2, d3] => { results := [.lit (.bool true)], args := [d1, d2, d3] }
  | _ => none }
def raceMoreRow : OpenClaim := { program := "ytiikndppckjmhaa", sum := "82ce8f898866cbbab78f877f55ccd541909e8d68740dd9f6fe5e89660cee695b", func := "alibi/alibilaw10.RaceMore", spec := "raceMore", unfollowed := true, recurses := true, apart := false }
def RaceMoreSaid : Prop := raceMoreRow.holds Try.pinned (OpenSpec.ofChange raceMoreSpec)

/-- ITS FALSE NEIGHBOUR: 'it returns false'. Refute it at one input. -/
def raceMoreWrong : ChangeSpec := { name := "raceMore", fn := fun _ => fun
  | [d1, d2, d3] => { results := [.lit (.bool false)], args := [d1, d2, d3] }
  | _ => none }
def RaceMoreWrongFalsely : Prop := raceMoreRow.holds Try.pinned (OpenSpec.ofChange raceMoreWrong)

/-- 'alibilaw10.RaceLocks': WHATEVER THE INPUT: true; the input reads as it did. -/
def raceLocksSpec : ChangeSpec := { name := "raceLocks", fn := fun _ => fun
  | [d1, d2] => { results := [.lit (.bool true)], args := [d1, d2] }
  | _ => none }
def raceLocksRow : OpenClaim := { program := "ytiikndppckjmhaa", sum := "82ce8f898866cbbab78f877f55ccd541909e8d68740dd9f6fe5e89660cee695b", func := "alibi/alibilaw10.RaceLocks", spec := "raceLocks", unfollowed := true, recurses := true, apart := false }
def RaceLocksSaid : Prop := raceLocksRow.holds Try.pinned (OpenSpec.ofChange raceLocksSpec)

/-- ITS FALSE NEIGHBOUR: 'it returns false'. Refute it at one input. -/
def raceLocksWrong : ChangeSpec := { name := "raceLocks", fn := fun _ => fun
  | [d1, d2] => { results := [.lit (.bool false)], args := [d1, d2] }
  | _ => none }
def RaceLocksWrongFalsely : Prop := raceLocksRow.holds Try.pinned (OpenSpec.ofChange raceLocksWrong)

/-- 'alibilaw09.SemOwn': WHATEVER THE INPUT: true; the input reads as it did. -/
def semOwnSpec : ChangeSpec := { name := "semOwn", fn := fun _ => fun
  | [d1, d2] => { results := [.lit (.bool true)], args := [d1, d2] }
  | _ => none }
def semOwnRow : OpenClaim := { program := "ytiikndppckjmhaa", sum := "82ce8f898866cbbab78f877f55ccd541909e8d68740dd9f6fe5e89660cee695b", func := "alibi/alibilaw09.SemOwn", spec := "semOwn", unfollowed := true, recurses := true, apart := false }
def SemOwnSaid : Prop := semOwnRow.holds Try.pinned (OpenSpec.ofChange semOwnSpec)

/-- ITS FALSE NEIGHBOUR: 'it returns false'. Refute it at one input. -/
def semOwnWrong : ChangeSpec := { name := "semOwn", fn := fun _ => fun
  | [d1, d2] => { results := [.lit (.bool false)], args := [d1, d2] }
  | _ => none }
def SemOwnWrongFalsely : Prop := semOwnRow.holds Try.pinned (OpenSpec.ofChange semOwnWrong)

/-- 'alibilaw11.ScriptIdle': WHATEVER THE INPUT: true; the input reads as it did. -/
def scriptIdleSpec : ChangeSpec := { name := "scriptIdle", fn := fun _ => fun
  | [d1, d2, d3] => { results := [.lit (.bool true)], args := [d1, d2, d3] }
  | _ => none }
def scriptIdleRow : OpenClaim := { program := "ytiikndppckjmhaa", sum := "82ce8f898866cbbab78f877f55ccd541909e8d68740dd9f6fe5e89660cee695b", func := "alibi/alibilaw11.ScriptIdle", spec := "scriptIdle", unfollowed := true, recurses := true, apart := false }
def ScriptIdleSaid : Prop := scriptIdleRow.holds Try.pinned (OpenSpec.ofChange scriptIdleSpec)

/-- ITS FALSE NEIGHBOUR: 'it returns false'. Refute it at one input. -/
def scriptIdleWrong : ChangeSpec := { name := "scriptIdle", fn := fun _ => fun
  | [d1, d2, d3] => { results := [.lit (.bool false)], args := [d1, d2, d3] }
  | _ => none }
def ScriptIdleWrongFalsely : Prop := scriptIdleRow.holds Try.pinned (OpenSpec.ofChange scriptIdleWrong)

/-- 'alibilaw11.ScriptRuns': WHATEVER THE INPUT: true; the input reads as it did. -/
def scriptRunsSpec : ChangeSpec := { name := "scriptRuns", fn := fun _ => fun
  | [d1, d2, d3] => { results := [.lit (.bool true)], args := [d1, d2, d3] }
  | _ => none }
def scriptRunsRow : OpenClaim := { program := "ytiikndppckjmhaa", sum := "82ce8f898866cbbab78f877f55ccd541909e8d68740dd9f6fe5e89660cee695b", func := "alibi/alibilaw11.ScriptRuns", spec := "scriptRuns", unfollowed := true, recurses := true, apart := false }
def ScriptRunsSaid : Prop := scriptRunsRow.holds Try.pinned (OpenSpec.ofChange scriptRunsSpec)

/-- ITS FALSE NEIGHBOUR: 'it returns false'. Refute it at one input. -/
def scriptRunsWrong : ChangeSpec := { name := "scriptRuns", fn := fun _ => fun
  | [d1, d2, d3] => { results := [.lit (.bool false)], args := [d1, d2, d3] }
  | _ => none }
def ScriptRunsWrongFalsely : Prop := scriptRunsRow.holds Try.pinned (OpenSpec.ofChange scriptRunsWrong)

/-- 'alibilaw11.ScriptFront': WHATEVER THE INPUT: true; the input reads as it did. -/
def scriptFrontSpec : ChangeSpec := { name := "scriptFront", fn := fun _ => fun
  | [d1, d2, d3] => { results := [.lit (.bool true)], args := [d1, d2, d3] }
  | _ => none }
def scriptFrontRow : OpenClaim := { program := "ytiikndppckjmhaa", sum := "82ce8f898866cbbab78f877f55ccd541909e8d68740dd9f6fe5e89660cee695b", func := "alibi/alibilaw11.ScriptFront", spec := "scriptFront", unfollowed := true, recurses := true, apart := false }
def ScriptFrontSaid : Prop := scriptFrontRow.holds Try.pinned (OpenSpec.ofChange scriptFrontSpec)

/-- ITS FALSE NEIGHBOUR: 'it returns false'. Refute it at one input. -/
def scriptFrontWrong : ChangeSpec := { name := "scriptFront", fn := fun _ => fun
  | [d1, d2, d3] => { results := [.lit (.bool false)], args := [d1, d2, d3] }
  | _ => none }
def ScriptFrontWrongFalsely : Prop := scriptFrontRow.holds Try.pinned (OpenSpec.ofChange scriptFrontWrong)

/-- 'alibilaw13.WitHolds': WHATEVER THE INPUT: true; the input reads as it did. -/
def witHoldsSpec : ChangeSpec := { name := "witHolds", fn := fun _ => fun
  | [d1, d2] => { results := [.lit (.bool true)], args := [d1, d2] }
  | _ => none }
def witHoldsRow : OpenClaim := { program := "ytiikndppckjmhaa", sum := "82ce8f898866cbbab78f877f55ccd541909e8d68740dd9f6fe5e89660cee695b", func := "alibi/alibilaw13.WitHolds", spec := "witHolds", unfollowed := true, recurses := true, apart := false }
def WitHoldsSaid : Prop := witHoldsRow.holds Try.pinned (OpenSpec.ofChange witHoldsSpec)

/-- ITS FALSE NEIGHBOUR: 'it returns false'. Refute it at one input. -/
def witHoldsWrong : ChangeSpec := { name := "witHolds", fn := fun _ => fun
  | [d1, d2] => { results := [.lit (.bool false)], args := [d1, d2] }
  | _ => none }
def WitHoldsWrongFalsely : Prop := witHoldsRow.holds Try.pinned (OpenSpec.ofChange witHoldsWrong)

/-- 'alibilaw12.SeekFinds': WHATEVER THE INPUT: true; the input reads as it did. -/
def seekFindsSpec : ChangeSpec := { name := "seekFinds", fn := fun _ => fun
  | [d1, d2] => { results := [.lit (.bool true)], args := [d1, d2] }
  | _ => none }
def seekFindsRow : OpenClaim := { program := "ytiikndppckjmhaa", sum := "82ce8f898866cbbab78f877f55ccd541909e8d68740dd9f6fe5e89660cee695b", func := "alibi/alibilaw12.SeekFinds", spec := "seekFinds", inPlace := ["internal/abi.NoEscape"], unfollowed := true, recurses := true, apart := false }
def SeekFindsSaid : Prop := seekFindsRow.holds Try.pinned (OpenSpec.ofChange seekFindsSpec)

/-- ITS FALSE NEIGHBOUR: 'it returns false'. Refute it at one input. -/
def seekFindsWrong : ChangeSpec := { name := "seekFinds", fn := fun _ => fun
  | [d1, d2] => { results := [.lit (.bool false)], args := [d1, d2] }
  | _ => none }
def SeekFindsWrongFalsely : Prop := seekFindsRow.holds Try.pinned (OpenSpec.ofChange seekFindsWrong)

/-- 'alibilaw12.SeekMore': WHATEVER THE INPUT: true; the input reads as it did. -/
def seekMoreSpec : ChangeSpec := { name := "seekMore", fn := fun _ => fun
  | [d1, d2, d3] => { results := [.lit (.bool true)], args := [d1, d2, d3] }
  | _ => none }
def seekMoreRow : OpenClaim := { program := "ytiikndppckjmhaa", sum := "82ce8f898866cbbab78f877f55ccd541909e8d68740dd9f6fe5e89660cee695b", func := "alibi/alibilaw12.SeekMore", spec := "seekMore", inPlace := ["internal/abi.NoEscape"], unfollowed := true, recurses := true, apart := false }
def SeekMoreSaid : Prop := seekMoreRow.holds Try.pinned (OpenSpec.ofChange seekMoreSpec)

/-- ITS FALSE NEIGHBOUR: 'it returns false'. Refute it at one input. -/
def seekMoreWrong : ChangeSpec := { name := "seekMore", fn := fun _ => fun
  | [d1, d2, d3] => { results := [.lit (.bool false)], args := [d1, d2, d3] }
  | _ => none }
def SeekMoreWrongFalsely : Prop := seekMoreRow.holds Try.pinned (OpenSpec.ofChange seekMoreWrong)

/-- 'alibilaw12.SeekTrue': WHATEVER THE INPUT: true; the input reads as it did. -/
def seekTrueSpec : ChangeSpec := { name := "seekTrue", fn := fun _ => fun
  | [d1, d2] => { results := [.lit (.bool true)], args := [d1, d2] }
  | _ => none }
def seekTrueRow : OpenClaim := { program := "ytiikndppckjmhaa", sum := "82ce8f898866cbbab78f877f55ccd541909e8d68740dd9f6fe5e89660cee695b", func := "alibi/alibilaw12.SeekTrue", spec := "seekTrue", inPlace := ["internal/abi.NoEscape"], unfollowed := true, recurses := true, apart := false }
def SeekTrueSaid : Prop := seekTrueRow.holds Try.pinned (OpenSpec.ofChange seekTrueSpec)

/-- ITS FALSE NEIGHBOUR: 'it returns false'. Refute it at one input. -/
def seekTrueWrong : ChangeSpec := { name := "seekTrue", fn := fun _ => fun
  | [d1, d2] => { results := [.lit (.bool false)], args := [d1, d2] }
  | _ => none }
def SeekTrueWrongFalsely : Prop := seekTrueRow.holds Try.pinned (OpenSpec.ofChange seekTrueWrong)

/-- 'alibilaw12.SeekNone': WHATEVER THE INPUT: true; the input reads as it did. -/
def seekNoneSpec : ChangeSpec := { name := "seekNone", fn := fun _ => fun
  | [d1, d2, d3] => { results := [.lit (.bool true)], args := [d1, d2, d3] }
  | _ => none }
def seekNoneRow : OpenClaim := { program := "ytiikndppckjmhaa", sum := "82ce8f898866cbbab78f877f55ccd541909e8d68740dd9f6fe5e89660cee695b", func := "alibi/alibilaw12.SeekNone", spec := "seekNone", inPlace := ["internal/abi.NoEscape"], unfollowed := true, recurses := true, apart := false }
def SeekNoneSaid : Prop := seekNoneRow.holds Try.pinned (OpenSpec.ofChange seekNoneSpec)

/-- ITS FALSE NEIGHBOUR: 'it returns false'. Refute it at one input. -/
def seekNoneWrong : ChangeSpec := { name := "seekNone", fn := fun _ => fun
  | [d1, d2, d3] => { results := [.lit (.bool false)], args := [d1, d2, d3] }
  | _ => none }
def SeekNoneWrongFalsely : Prop := seekNoneRow.holds Try.pinned (OpenSpec.ofChange seekNoneWrong)

/-- 'alibilaw13.WitOf': WHATEVER THE INPUT: true; the input reads as it did. -/
def witOfSpec : ChangeSpec := { name := "witOf", fn := fun _ => fun
  | [d1, d2] => { results := [.lit (.bool true)], args := [d1, d2] }
  | _ => none }
def witOfRow : OpenClaim := { program := "ytiikndppckjmhaa", sum := "82ce8f898866cbbab78f877f55ccd541909e8d68740dd9f6fe5e89660cee695b", func := "alibi/alibilaw13.WitOf", spec := "witOf", unfollowed := true, recurses := true, apart := false }
def WitOfSaid : Prop := witOfRow.holds Try.pinned (OpenSpec.ofChange witOfSpec)

/-- ITS FALSE NEIGHBOUR: 'it returns false'. Refute it at one input. -/
def witOfWrong : ChangeSpec := { name := "witOf", fn := fun _ => fun
  | [d1, d2] => { results := [.lit (.bool false)], args := [d1, d2] }
  | _ => none }
def WitOfWrongFalsely : Prop := witOfRow.holds Try.pinned (OpenSpec.ofChange witOfWrong)

/-- 'alibilaw12.SeekSteps': WHATEVER THE INPUT: true; the input reads as it did. -/
def seekStepsSpec : ChangeSpec := { name := "seekSteps", fn := fun _ => fun
  | [d1, d2] => { results := [.lit (.bool true)], args := [d1, d2] }
  | _ => none }
def seekStepsRow : OpenClaim := { program := "ytiikndppckjmhaa", sum := "82ce8f898866cbbab78f877f55ccd541909e8d68740dd9f6fe5e89660cee695b", func := "alibi/alibilaw12.SeekSteps", spec := "seekSteps", inPlace := ["internal/abi.NoEscape"], unfollowed := true, recurses := true, apart := false }
def SeekStepsSaid : Prop := seekStepsRow.holds Try.pinned (OpenSpec.ofChange seekStepsSpec)

/-- ITS FALSE NEIGHBOUR: 'it returns false'. Refute it at one input. -/
def seekStepsWrong : ChangeSpec := { name := "seekSteps", fn := fun _ => fun
  | [d1, d2] => { results := [.lit (.bool false)], args := [d1, d2] }
  | _ => none }
def SeekStepsWrongFalsely : Prop := seekStepsRow.holds Try.pinned (OpenSpec.ofChange seekStepsWrong)

/-- 'alibilaw13.WitFound': WHATEVER THE INPUT: true; the input reads as it did. -/
def witFoundSpec : ChangeSpec := { name := "witFound", fn := fun _ => fun
  | [d1, d2] => { results := [.lit (.bool true)], args := [d1, d2] }
  | _ => none }
def witFoundRow : OpenClaim := { program := "ytiikndppckjmhaa", sum := "82ce8f898866cbbab78f877f55ccd541909e8d68740dd9f6fe5e89660cee695b", func := "alibi/alibilaw13.WitFound", spec := "witFound", inPlace := ["internal/abi.NoEscape"], unfollowed := true, recurses := true, apart := false }
def WitFoundSaid : Prop := witFoundRow.holds Try.pinned (OpenSpec.ofChange witFoundSpec)

/-- ITS FALSE NEIGHBOUR: 'it returns false'. Refute it at one input. -/
def witFoundWrong : ChangeSpec := { name := "witFound", fn := fun _ => fun
  | [d1, d2] => { results := [.lit (.bool false)], args := [d1, d2] }
  | _ => none }
def WitFoundWrongFalsely : Prop := witFoundRow.holds Try.pinned (OpenSpec.ofChange witFoundWrong)

/- THE SECOND FORM. 'bulk': how many values and letters a reading holds, each counted each time it is reached (what is shared counts as often as it is met; a slice's spare places count too). A statement '..UptoSaid' is the law's where the arguments, and the package variables that the reading takes, are together of bulk at most 1048576: NARROWER than '..Said'. Prove '..Said' where nothing that the law and all that it calls make is longer than what came in: it says more and counts as full. Else prove '..UptoSaid'. A law counts once. -/
mutual
def uptoBulk {H : Type} : DataW H → Nat
  | .lit (.string bytes) => bytes.length + 1
  | .lit _ => 1
  | .nil => 1
  | .ptr d => uptoBulk d + 1
  | .slice elems spare => uptoBulkAll elems + uptoBulkAll spare + 1
  | .agg parts => uptoBulkAll parts + 1
  | .iface _ d => uptoBulk d + 1
  | .map entries => uptoBulkEntries entries + 1
  | .held _ => 1
def uptoBulkAll {H : Type} : List (DataW H) → Nat
  | [] => 0
  | d :: r => uptoBulk d + uptoBulkAll r
def uptoBulkEntries {H : Type} : List (Lit × DataW H) → Nat
  | [] => 0
  | x :: r => uptoBulkEntry x + uptoBulkEntries r
def uptoBulkEntry {H : Type} : Lit × DataW H → Nat
  | (.string bytes, d) => bytes.length + uptoBulk d + 1
  | (_, d) => uptoBulk d + 1
 end
def uptoSmall : (H : Type) → List (DataW H) → Bool := fun _ ds => decide (uptoBulkAll ds ≤ 1048576)
def OpenSpec.upto (s : _root_.Go.ChangeSpec) : _root_.Go.OpenSpec := { _root_.Go.OpenSpec.ofChange s with cond := some uptoSmall }

/-- 'alibilaw09.SemPlays', WHERE WHAT IT READS IS OF BULK AT MOST 1048576: true; the input reads as it did. -/
def semPlaysUptoRow : OpenClaim := { program := "ytiikndppckjmhaa", sum := "82ce8f898866cbbab78f877f55ccd541909e8d68740dd9f6fe5e89660cee695b", func := "alibi/alibilaw09.SemPlays", spec := "semPlays", unfollowed := true, recurses := true, apart := false, narrowed := true }
def SemPlaysUptoSaid : Prop := semPlaysUptoRow.holds Try.pinned (OpenSpec.upto semPlaysSpec)

/-- 'alibilaw09.SemHolds', WHERE WHAT IT READS IS OF BULK AT MOST 1048576: true; the input reads as it did. -/
def semHoldsUptoRow : OpenClaim := { program := "ytiikndppckjmhaa", sum := "82ce8f898866cbbab78f877f55ccd541909e8d68740dd9f6fe5e89660cee695b", func := "alibi/alibilaw09.SemHolds", spec := "semHolds", unfollowed := true, recurses := true, apart := false, narrowed := true }
def SemHoldsUptoSaid : Prop := semHoldsUptoRow.holds Try.pinned (OpenSpec.upto semHoldsSpec)

/-- 'alibilaw09.SemLocks', WHERE WHAT IT READS IS OF BULK AT MOST 1048576: true; the input reads as it did. -/
def semLocksUptoRow : OpenClaim := { program := "ytiikndppckjmhaa", sum := "82ce8f898866cbbab78f877f55ccd541909e8d68740dd9f6fe5e89660cee695b", func := "alibi/alibilaw09.SemLocks", spec := "semLocks", unfollowed := true, recurses := true, apart := false, narrowed := true }
def SemLocksUptoSaid : Prop := semLocksUptoRow.holds Try.pinned (OpenSpec.upto semLocksSpec)

/-- 'alibilaw10.RaceReads', WHERE WHAT IT READS IS OF BULK AT MOST 1048576: true; the input reads as it did. -/
def raceReadsUptoRow : OpenClaim := { program := "ytiikndppckjmhaa", sum := "82ce8f898866cbbab78f877f55ccd541909e8d68740dd9f6fe5e89660cee695b", func := "alibi/alibilaw10.RaceReads", spec := "raceReads", unfollowed := true, recurses := true, apart := false, narrowed := true }
def RaceReadsUptoSaid : Prop := raceReadsUptoRow.holds Try.pinned (OpenSpec.upto raceReadsSpec)

/-- 'alibilaw09.SemSame', WHERE WHAT IT READS IS OF BULK AT MOST 1048576: true; the input reads as it did. -/
def semSameUptoRow : OpenClaim := { program := "ytiikndppckjmhaa", sum := "82ce8f898866cbbab78f877f55ccd541909e8d68740dd9f6fe5e89660cee695b", func := "alibi/alibilaw09.SemSame", spec := "semSame", unfollowed := true, recurses := true, apart := false, narrowed := true }
def SemSameUptoSaid : Prop := semSameUptoRow.holds Try.pinned (OpenSpec.upto semSameSpec)

/-- 'alibilaw09.SemWay', WHERE WHAT IT READS IS OF BULK AT MOST 1048576: true; the input reads as it did. -/
def semWayUptoRow : OpenClaim := { program := "ytiikndppckjmhaa", sum := "82ce8f898866cbbab78f877f55ccd541909e8d68740dd9f6fe5e89660cee695b", func := "alibi/alibilaw09.SemWay", spec := "semWay", unfollowed := true, recurses := true, apart := false, narrowed := true }
def SemWayUptoSaid : Prop := semWayUptoRow.holds Try.pinned (OpenSpec.upto semWaySpec)

/-- 'alibilaw10.RaceTells', WHERE WHAT IT READS IS OF BULK AT MOST 1048576: true; the input reads as it did. -/
def raceTellsUptoRow : OpenClaim := { program := "ytiikndppckjmhaa", sum := "82ce8f898866cbbab78f877f55ccd541909e8d68740dd9f6fe5e89660cee695b", func := "alibi/alibilaw10.RaceTells", spec := "raceTells", unfollowed := true, recurses := true, apart := false, narrowed := true }
def RaceTellsUptoSaid : Prop := raceTellsUptoRow.holds Try.pinned (OpenSpec.upto raceTellsSpec)

/-- 'alibilaw10.RaceBoth', WHERE WHAT IT READS IS OF BULK AT MOST 1048576: true; the input reads as it did. -/
def raceBothUptoRow : OpenClaim := { program := "ytiikndppckjmhaa", sum := "82ce8f898866cbbab78f877f55ccd541909e8d68740dd9f6fe5e89660cee695b", func := "alibi/alibilaw10.RaceBoth", spec := "raceBoth", unfollowed := true, recurses := true, apart := false, narrowed := true }
def RaceBothUptoSaid : Prop := raceBothUptoRow.holds Try.pinned (OpenSpec.upto raceBothSpec)

/-- 'alibilaw10.RaceMore', WHERE WHAT IT READS IS OF BULK AT MOST 1048576: true; the input reads as it did. -/
def raceMoreUptoRow : OpenClaim := { program := "ytiikndppckjmhaa", sum := "82ce8f898866cbbab78f877f55ccd541909e8d68740dd9f6fe5e89660cee695b", func := "alibi/alibilaw10.RaceMore", spec := "raceMore", unfollowed := true, recurses := true, apart := false, narrowed := true }
def RaceMoreUptoSaid : Prop := raceMoreUptoRow.holds Try.pinned (OpenSpec.upto raceMoreSpec)

/-- 'alibilaw10.RaceLocks', WHERE WHAT IT READS IS OF BULK AT MOST 1048576: true; the input reads as it did. -/
def raceLocksUptoRow : OpenClaim := { program := "ytiikndppckjmhaa", sum := "82ce8f898866cbbab78f877f55ccd541909e8d68740dd9f6fe5e89660cee695b", func := "alibi/alibilaw10.RaceLocks", spec := "raceLocks", unfollowed := true, recurses := true, apart := false, narrowed := true }
def RaceLocksUptoSaid : Prop := raceLocksUptoRow.holds Try.pinned (OpenSpec.upto raceLocksSpec)

/-- 'alibilaw09.SemOwn', WHERE WHAT IT READS IS OF BULK AT MOST 1048576: true; the input reads as it did. -/
def semOwnUptoRow : OpenClaim := { program := "ytiikndppckjmhaa", sum := "82ce8f898866cbbab78f877f55ccd541909e8d68740dd9f6fe5e89660cee695b", func := "alibi/alibilaw09.SemOwn", spec := "semOwn", unfollowed := true, recurses := true, apart := false, narrowed := true }
def SemOwnUptoSaid : Prop := semOwnUptoRow.holds Try.pinned (OpenSpec.upto semOwnSpec)

/-- 'alibilaw11.ScriptIdle', WHERE WHAT IT READS IS OF BULK AT MOST 1048576: true; the input reads as it did. -/
def scriptIdleUptoRow : OpenClaim := { program := "ytiikndppckjmhaa", sum := "82ce8f898866cbbab78f877f55ccd541909e8d68740dd9f6fe5e89660cee695b", func := "alibi/alibilaw11.ScriptIdle", spec := "scriptIdle", unfollowed := true, recurses := true, apart := false, narrowed := true }
def ScriptIdleUptoSaid : Prop := scriptIdleUptoRow.holds Try.pinned (OpenSpec.upto scriptIdleSpec)

/-- 'alibilaw11.ScriptRuns', WHERE WHAT IT READS IS OF BULK AT MOST 1048576: true; the input reads as it did. -/
def scriptRunsUptoRow : OpenClaim := { program := "ytiikndppckjmhaa", sum := "82ce8f898866cbbab78f877f55ccd541909e8d68740dd9f6fe5e89660cee695b", func := "alibi/alibilaw11.ScriptRuns", spec := "scriptRuns", unfollowed := true, recurses := true, apart := false, narrowed := true }
def ScriptRunsUptoSaid : Prop := scriptRunsUptoRow.holds Try.pinned (OpenSpec.upto scriptRunsSpec)

/-- 'alibilaw11.ScriptFront', WHERE WHAT IT READS IS OF BULK AT MOST 1048576: true; the input reads as it did. -/
def scriptFrontUptoRow : OpenClaim := { program := "ytiikndppckjmhaa", sum := "82ce8f898866cbbab78f877f55ccd541909e8d68740dd9f6fe5e89660cee695b", func := "alibi/alibilaw11.ScriptFront", spec := "scriptFront", unfollowed := true, recurses := true, apart := false, narrowed := true }
def ScriptFrontUptoSaid : Prop := scriptFrontUptoRow.holds Try.pinned (OpenSpec.upto scriptFrontSpec)

/-- 'alibilaw13.WitHolds', WHERE WHAT IT READS IS OF BULK AT MOST 1048576: true; the input reads as it did. -/
def witHoldsUptoRow : OpenClaim := { program := "ytiikndppckjmhaa", sum := "82ce8f898866cbbab78f877f55ccd541909e8d68740dd9f6fe5e89660cee695b", func := "alibi/alibilaw13.WitHolds", spec := "witHolds", unfollowed := true, recurses := true, apart := false, narrowed := true }
def WitHoldsUptoSaid : Prop := witHoldsUptoRow.holds Try.pinned (OpenSpec.upto witHoldsSpec)

/-- 'alibilaw12.SeekFinds', WHERE WHAT IT READS IS OF BULK AT MOST 1048576: true; the input reads as it did. -/
def seekFindsUptoRow : OpenClaim := { program := "ytiikndppckjmhaa", sum := "82ce8f898866cbbab78f877f55ccd541909e8d68740dd9f6fe5e89660cee695b", func := "alibi/alibilaw12.SeekFinds", spec := "seekFinds", inPlace := ["internal/abi.NoEscape"], unfollowed := true, recurses := true, apart := false, narrowed := true }
def SeekFindsUptoSaid : Prop := seekFindsUptoRow.holds Try.pinned (OpenSpec.upto seekFindsSpec)

/-- 'alibilaw12.SeekMore', WHERE WHAT IT READS IS OF BULK AT MOST 1048576: true; the input reads as it did. -/
def seekMoreUptoRow : OpenClaim := { program := "ytiikndppckjmhaa", sum := "82ce8f898866cbbab78f877f55ccd541909e8d68740dd9f6fe5e89660cee695b", func := "alibi/alibilaw12.SeekMore", spec := "seekMore", inPlace := ["internal/abi.NoEscape"], unfollowed := true, recurses := true, apart := false, narrowed := true }
def SeekMoreUptoSaid : Prop := seekMoreUptoRow.holds Try.pinned (OpenSpec.upto seekMoreSpec)

/-- 'alibilaw12.SeekTrue', WHERE WHAT IT READS IS OF BULK AT MOST 1048576: true; the input reads as it did. -/
def seekTrueUptoRow : OpenClaim := { program := "ytiikndppckjmhaa", sum := "82ce8f898866cbbab78f877f55ccd541909e8d68740dd9f6fe5e89660cee695b", func := "alibi/alibilaw12.SeekTrue", spec := "seekTrue", inPlace := ["internal/abi.NoEscape"], unfollowed := true, recurses := true, apart := false, narrowed := true }
def SeekTrueUptoSaid : Prop := seekTrueUptoRow.holds Try.pinned (OpenSpec.upto seekTrueSpec)

/-- 'alibilaw12.SeekNone', WHERE WHAT IT READS IS OF BULK AT MOST 1048576: true; the input reads as it did. -/
def seekNoneUptoRow : OpenClaim := { program := "ytiikndppckjmhaa", sum := "82ce8f898866cbbab78f877f55ccd541909e8d68740dd9f6fe5e89660cee695b", func := "alibi/alibilaw12.SeekNone", spec := "seekNone", inPlace := ["internal/abi.NoEscape"], unfollowed := true, recurses := true, apart := false, narrowed := true }
def SeekNoneUptoSaid : Prop := seekNoneUptoRow.holds Try.pinned (OpenSpec.upto seekNoneSpec)

/-- 'alibilaw13.WitOf', WHERE WHAT IT READS IS OF BULK AT MOST 1048576: true; the input reads as it did. -/
def witOfUptoRow : OpenClaim := { program := "ytiikndppckjmhaa", sum := "82ce8f898866cbbab78f877f55ccd541909e8d68740dd9f6fe5e89660cee695b", func := "alibi/alibilaw13.WitOf", spec := "witOf", unfollowed := true, recurses := true, apart := false, narrowed := true }
def WitOfUptoSaid : Prop := witOfUptoRow.holds Try.pinned (OpenSpec.upto witOfSpec)

/-- 'alibilaw12.SeekSteps', WHERE WHAT IT READS IS OF BULK AT MOST 1048576: true; the input reads as it did. -/
def seekStepsUptoRow : OpenClaim := { program := "ytiikndppckjmhaa", sum := "82ce8f898866cbbab78f877f55ccd541909e8d68740dd9f6fe5e89660cee695b", func := "alibi/alibilaw12.SeekSteps", spec := "seekSteps", inPlace := ["internal/abi.NoEscape"], unfollowed := true, recurses := true, apart := false, narrowed := true }
def SeekStepsUptoSaid : Prop := seekStepsUptoRow.holds Try.pinned (OpenSpec.upto seekStepsSpec)

/-- 'alibilaw13.WitFound', WHERE WHAT IT READS IS OF BULK AT MOST 1048576: true; the input reads as it did. -/
def witFoundUptoRow : OpenClaim := { program := "ytiikndppckjmhaa", sum := "82ce8f898866cbbab78f877f55ccd541909e8d68740dd9f6fe5e89660cee695b", func := "alibi/alibilaw13.WitFound", spec := "witFound", inPlace := ["internal/abi.NoEscape"], unfollowed := true, recurses := true, apart := false, narrowed := true }
def WitFoundUptoSaid : Prop := witFoundUptoRow.holds Try.pinned (OpenSpec.upto witFoundSpec)

end Rows
end Go.Proofs.Ytiikndppckjmhaa
