/- VerifyHand's row: its call comes to no go statement. -/
import Derived.Test.YtbnnfoimkdbjaaaGreatDoorRows
import Derived.SevenTiedAt
namespace Go.Proofs.YtbnnfoimkdbjaaaGreatDoor.hand
theorem noGoes : false = Rows.verifyHandRow.goesBy Tryz.pinned.checked.prog := by kernel_rfl
end Go.Proofs.YtbnnfoimkdbjaaaGreatDoor.hand
