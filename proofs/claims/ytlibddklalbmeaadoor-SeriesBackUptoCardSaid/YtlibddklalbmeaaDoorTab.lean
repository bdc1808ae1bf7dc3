/- What the rows' lists give: the cells of the table of package math/bits; and a world for the witnesses that holds it. -/
import Derived.Test.YtlibddklalbmeaaDoorRows
import Derived.Test.YtlibddklalbmeaaDoorBits
import Derived.WalkKit
import Derived.ProofKit
import Derived.OpenShut
import Derived.Deep.DeepHandedRow
import Derived.Lib.LaidTab
import Derived.Below
namespace Go.Proofs.YtlibddklalbmeaaDoor
open Go.ChangeShapes Go.WideShapes Go.ChangeAt Go.RowKit

theorem own : ownKnob Tryd.prog.godebug = none := by kernel_rfl
theorem gTab : Tryd.prog.globalNamed "math/bits.deBruijn64tab" = some 1 := by kernel_rfl
theorem gTabShape : ∃ t e, (Tryd.prog.globals[1]?).map (·.type) = some t ∧ Tryd.prog.underlying t = some (.array 64 e) ∧ Tryd.prog.underlying e = some (.int .u8) ∧ Tryd.prog.cellsOf e = 1 ∧ Tryd.prog.cellsOf t = 64 :=
  ⟨((Tryd.prog.globals[1]?).map (·.type)).getD 0, 5, by kernel_rfl, by kernel_rfl, by kernel_rfl, by kernel_rfl, by kernel_rfl⟩

def tabInts : List Int := Lib.deBruijn64tab.map Int.ofNat
theorem tab_head : Rows.laid_math_bits_deBruijn64tab (H := Unit) = Lib.tabData .u8 tabInts := by kernel_rfl

theorem tabAt_of {W : World} (h : laidMetH Tryd.prog [("math/bits.deBruijn64tab", Rows.laid_math_bits_deBruijn64tab)] W) : TabAt 1 Lib.deBruijn64tab W := by
  obtain ⟨t, e, h1, h2, h3, h4, h5⟩ := gTabShape
  have ht : Lib.TabIs Tryd.prog W "math/bits.deBruijn64tab" .u8 tabInts :=
    Lib.tabIs_of_head (rest := []) gTab h1 h2 h3 h4 h5 (by rw [← tab_head]; exact h)
  intro j hj
  have := ht.cell gTab j (by simpa [tabInts] using hj)
  rw [this]
  unfold tabInts
  rw [List.getD_eq_getElem?_getD, List.getD_eq_getElem?_getD, List.getElem?_map]
  cases Lib.deBruijn64tab[j]? <;> rfl

/-- A world for a witness: the settled one, the table (block 1) holding what its initialiser lays. -/
noncomputable def laidWorld (os : Os) : World :=
  { World.holding Tryd.prog os ⟨#[], #[], []⟩ with heap := (World.holding Tryd.prog os ⟨#[], #[], []⟩).heap.modify 1 fun
      | .cells _ t frozen => .cells (tabInts.map (Value.int .u8)).toArray t frozen
      | o => o }
end Go.Proofs.YtlibddklalbmeaaDoor
