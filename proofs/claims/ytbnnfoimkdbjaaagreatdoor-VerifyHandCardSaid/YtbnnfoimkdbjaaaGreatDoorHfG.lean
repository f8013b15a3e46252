/- Faulty modules by hand: calls that are run apart. -/
import Derived.Test.YtbnnfoimkdbjaaaGreatDoorHvA
namespace Go.Proofs.YtbnnfoimkdbjaaaGreatDoor
namespace Kv
open Ev
set_option maxRecDepth 1000000
theorem h12 : handFact 12 = true := by kernel_rfl
theorem h13 : handFact 13 = true := by kernel_rfl
theorem h14 : handFact 14 = true := by kernel_rfl
theorem h15 : handFact 15 = true := by kernel_rfl
theorem h16 : handFact 16 = true := by kernel_rfl
theorem h17 : handFact 17 = true := by kernel_rfl
end Kv
end Go.Proofs.YtbnnfoimkdbjaaaGreatDoor
