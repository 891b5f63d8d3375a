/- The table in its variable: what a row's condition gives for the logic. -/
import Derived.Test.YtpbbkfekibmaiaaDoorWxB
import Derived.Test.YtpbbkfekibmaiaaDoorAmRd
import Derived.Lib.LaidTab
namespace Go.Proofs.YtpbbkfekibmaiaaDoor.Am
open Go.ChangeShapes Go.WideShapes Go.RowKit
set_option autoImplicit false
set_option maxRecDepth 10000
/-- The de Bruijn table lies in its variable. -/
def TabOk (w : World) : Prop := ∀ j, j < 32 → w.cell? ⟨0, j, none⟩ = some (.int .u8 (Lib.deBruijn32tab.getD j 0))
theorem tab_ok {W : World} {rest : List (String × DataW Unit)} (h : laidMet Tryd.prog (("math/bits.deBruijn32tab", .agg ((Lib.deBruijn32tab.map fun (n : Nat) => (n : Int)).map fun z => .lit (.int .u8 z))) :: rest) W) : TabOk W := by
  have hT := Lib.tabIs_of_head (k := .u8) (zs := Lib.deBruijn32tab.map fun (n : Nat) => (n : Int)) (show Tryd.prog.globalNamed "math/bits.deBruijn32tab" = some 0 by kernel_rfl) rfl Tryd.underlying81 Tryd.underlying5 (by kernel_rfl) (by kernel_rfl) h
  intro j hj
  have := hT.cell (show Tryd.prog.globalNamed "math/bits.deBruijn32tab" = some 0 by kernel_rfl) j (by simpa [Lib.deBruijn32tab] using hj)
  rw [this]
  congr 2
  simp [List.getD_eq_getElem?_getD, List.getElem?_map]
  cases h : Lib.deBruijn32tab[j]? <;> simp
theorem gok_of_tab {W : World} (h : TabOk W) : GOk everyD G1 noMu [] W := by
  intro g cs hg
  unfold G1 at hg
  split at hg
  · rename_i h0
    subst h0
    cases hg
    refine ⟨inW_qd ?_, fun j => .int .u8 (Lib.deBruijn32tab.getD j 0), fun j v hj => ?_, fun j v hj => ?_⟩
    · exact World.block_lt_of_cell? W _ (h 0 (by decide))
    · have hlt := lt_of_get? hj
      exact h j (by simpa [tz, Lib.deBruijn32tab] using hlt)
    · simp only [tz, List.getElem?_map, Option.map_eq_some_iff] at hj
      obtain ⟨n, hn, rfl⟩ := hj
      have e : Lib.deBruijn32tab.getD j 0 = n := by rw [List.getD_eq_getElem?_getD, hn]; rfl
      show irel _ W (I.int .u8 n) (.int .u8 (Lib.deBruijn32tab.getD j 0 : Nat))
      rw [e]
      exact .int .u8 n
  · cases hg
end Go.Proofs.YtpbbkfekibmaiaaDoor.Am
