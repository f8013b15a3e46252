/- FoldHand's row: its call comes to no go statement. -/
import Derived.Test.YtbemdcbglpjmiaaGreatDoorRows
import Derived.SevenTiedAt
namespace Go.Proofs.YtbemdcbglpjmiaaGreatDoor.foldHand
theorem noGoes : false = Rows.foldHandRow.goesBy Tryz.pinned.checked.prog := by kernel_rfl
end Go.Proofs.YtbemdcbglpjmiaaGreatDoor.foldHand
