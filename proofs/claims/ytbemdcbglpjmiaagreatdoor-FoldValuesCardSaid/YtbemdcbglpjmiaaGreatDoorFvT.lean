/- FoldValues's row: its call comes to no go statement. -/
import Derived.Test.YtbemdcbglpjmiaaGreatDoorRows
import Derived.SevenTiedAt
namespace Go.Proofs.YtbemdcbglpjmiaaGreatDoor.foldValues
theorem noGoes : false = Rows.foldValuesRow.goesBy Tryz.pinned.checked.prog := by kernel_rfl
end Go.Proofs.YtbemdcbglpjmiaaGreatDoor.foldValues
