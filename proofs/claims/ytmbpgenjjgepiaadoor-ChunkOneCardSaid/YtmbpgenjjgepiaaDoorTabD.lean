/- What the row's list gives of the table of de Bruijn: its cells. Conditions: the row's own. -/
import Derived.Test.YtmbpgenjjgepiaaDoorZeros
import Derived.Test.YtmbpgenjjgepiaaDoorOpen
import Derived.Test.YtmbpgenjjgepiaaDoorCards
import Derived.Test.YtmbpgenjjgepiaaDoorTie
import Derived.Deep.DeepHandedRow
import Derived.Lib.LaidTab
namespace Go.Proofs.YtmbpgenjjgepiaaDoor
open Go.ChangeShapes Go.WideShapes Go.ChangeAt Go.RowKit Go.Deep

theorem gDeb : Tryd.prog.globalNamed "math/bits.deBruijn64tab" = some 1 := by kernel_rfl
theorem gDebType : (Tryd.prog.globals[1]?).map (·.type) = some 80 := by kernel_rfl
theorem debList : (Rows.laid_math_bits_deBruijn64tab : DataW Unit) = Lib.tabData .u8 (Lib.deBruijn64tab.map fun n : Nat => (n : Int)) := by kernel_rfl
theorem deb_at {rest : List (String × DataW Unit)} {W : World} (h : laidMet Tryd.prog (("math/bits.deBruijn64tab", Rows.laid_math_bits_deBruijn64tab) :: rest) W) : DebAt W := by
  rw [debList] at h
  have h1 := Lib.tabIs_of_head gDeb gDebType Tryd.underlying80 Tryd.underlying5 (by kernel_rfl) (by kernel_rfl) h
  intro j hj
  have hl : Lib.deBruijn64tab.length = 64 := by decide
  have h2 := h1.cell gDeb j (by rw [List.length_map, hl]; exact hj)
  rw [h2]
  congr 2
  rw [List.getD_eq_getElem?_getD, List.getD_eq_getElem?_getD, List.getElem?_map, List.getElem?_eq_getElem (by rw [hl]; exact hj)]
  rfl
theorem deb_lt {W : World} (h : DebAt W) : 1 < W.heap.size := World.block_lt_of_cell? W ⟨1, 0, none⟩ (h 0 (by decide))
end Go.Proofs.YtmbpgenjjgepiaaDoor
