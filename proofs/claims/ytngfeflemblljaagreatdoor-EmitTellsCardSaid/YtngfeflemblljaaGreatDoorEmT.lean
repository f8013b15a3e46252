/- EmitTells's row: its call comes to no go statement. -/
import Derived.Test.YtngfeflemblljaaGreatDoorRows
import Derived.SevenTiedAt
namespace Go.Proofs.YtngfeflemblljaaGreatDoor.emitTells
theorem noGoes : false = Rows.emitTellsRow.goesBy Tryz.pinned.checked.prog := by kernel_rfl
end Go.Proofs.YtngfeflemblljaaGreatDoor.emitTells
