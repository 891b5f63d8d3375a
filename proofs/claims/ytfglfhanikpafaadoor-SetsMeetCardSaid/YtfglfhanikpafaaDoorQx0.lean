-- Written by this session's wip/myprint.sh (a variant of the kit's printer); Lean checks it.
import Derived.Test.YtfglfhanikpafaaDoorProg
import Derived.Shelf.Spec.TrailingZeros
import Derived.Lib.BitFns
import Derived.Lib.Walk
import Derived.Lib.LaidTab
import Derived.Below
import Derived.Deep.Draws
import Derived.Deep.AppendLies
import Derived.Maps.AppendAt
import Derived.OwnWalk
import Derived.Laws.BytesArg
import Derived.Laws.MakeOwn
import Derived.Laws.OwnMore
import Derived.Deep.OwnRows
import Derived.Tactics
import Derived.Lib.ConvBytes
import Derived.Laws.Slices
import Derived.WalkKit
import Derived.KernelRfl
import Derived.RowKit3
import Derived.Deep.LoopGhost
import Derived.Deep.QuietTactic
import Derived.BigQuiet
import Derived.WideLaws
import Derived.Deep.DeepCutAuto
import Derived.Deep.CutBlock
import Derived.Deep.RegionHeld3
import Derived.Laws.Rows
import Derived.Lib.AppendStr
import Derived.ArgAppend
import Derived.Laws.IdiomCopy
import Derived.OrdersHeld
import Derived.Laws.BitsLemmas
import Derived.RowKit
import Derived.Test.YtfglfhanikpafaaDoorWWords
import Derived.Test.YtfglfhanikpafaaDoorWLast
import Derived.Test.YtfglfhanikpafaaDoorWTab
import Derived.Test.YtfglfhanikpafaaDoorWFour
import Derived.Test.YtfglfhanikpafaaDoorWQPut
import Derived.Test.YtfglfhanikpafaaDoorWApart
import Derived.Test.YtfglfhanikpafaaDoorWArr
import Derived.Test.YtfglfhanikpafaaDoorWZeros
import Derived.Test.YtfglfhanikpafaaDoorWFoot
import Derived.Test.YtfglfhanikpafaaDoorWKept
import Derived.Test.YtfglfhanikpafaaDoorWShare
import Derived.Test.YtfglfhanikpafaaDoorWN
import Derived.Test.YtfglfhanikpafaaDoorWFootNe
import Derived.Test.YtfglfhanikpafaaDoorWAt
import Derived.Test.YtfglfhanikpafaaDoorWEqStruct
import Derived.Test.YtfglfhanikpafaaDoorWRepsOne
import Derived.Test.YtfglfhanikpafaaDoorWInv
import Derived.Test.YtfglfhanikpafaaDoorWInvWords
import Derived.Test.YtfglfhanikpafaaDoorWGuard
import Derived.Test.YtfglfhanikpafaaDoorWNEv
import Derived.Test.YtfglfhanikpafaaDoorWMore
namespace Go.Proofs.YtfglfhanikpafaaDoor.Q
open Go.RowKit Go.Proofs.YtfglfhanikpafaaDoorW.PrintWords Go.Proofs.YtfglfhanikpafaaDoorW.PrintLast Go.Proofs.YtfglfhanikpafaaDoorW.PrintMore
attribute [local go_sem] max2_int min2_int max_two min_two max_three min_three max_four min_four   -- for this text's walks alone
set_option linter.unusedVariables false
set_option linter.unusedSimpArgs false



def errW : Option Int → Value
  | none => .nilIface
  | some c => .iface 0 (.int .i64 c)
theorem errW_none : errW none = .nilIface := rfl
theorem errW_some (c : Int) : errW (some c) = .iface 0 (.int .i64 c) := rfl

theorem info3 : (Tryd.prog.info? 3).map (fun i => (i.zero, i.size, i.bytes)) = some (some (.int .i64 0), 1, 8) := by kernel_rfl
-- the values' own types

/-- The de Bruijn table lies in its variable. -/
def TabOk (w : World) : Prop := ∀ j, j < 32 → w.cell? ⟨0, j, none⟩ = some (.int .u8 (Lib.deBruijn32tab.getD j 0))
theorem tab_below {w w' : World} (h : TabOk w) (hb : Below w.heap.size w w') : TabOk w' := fun j hj => pw_cell_below hb (h j hj)
/-- What a row's condition gives: the table is the first of what it lists. -/
theorem tab_ok {W : World} {rest : List (String × DataW Unit)} (h : laidMet Tryd.prog (("math/bits.deBruijn32tab", .agg ((Lib.deBruijn32tab.map fun (n : Nat) => (n : Int)).map fun z => .lit (.int .u8 z))) :: rest) W) : TabOk W := by
  have hT := Lib.tabIs_of_head (k := .u8) (zs := Lib.deBruijn32tab.map fun (n : Nat) => (n : Int)) (show Tryd.prog.globalNamed "math/bits.deBruijn32tab" = some 0 by kernel_rfl) rfl Tryd.underlying47 Tryd.underlying5 (by kernel_rfl) (by kernel_rfl) h
  intro j hj
  have := hT.cell (show Tryd.prog.globalNamed "math/bits.deBruijn32tab" = some 0 by kernel_rfl) j (by simpa [Lib.deBruijn32tab] using hj)
  rw [this]
  congr 2
  rw [List.getD_eq_getElem?_getD, List.getD_eq_getElem?_getD, List.getElem?_map]
  cases Lib.deBruijn32tab[j]? <;> rfl

end Go.Proofs.YtfglfhanikpafaaDoor.Q
