/- Faulty modules by hand: calls that are run apart. -/
import Derived.Test.YtbnnfoimkdbjaaaGreatDoorHvA
namespace Go.Proofs.YtbnnfoimkdbjaaaGreatDoor
namespace Kv
open Ev
set_option maxRecDepth 1000000
theorem h6 : handFact 6 = true := by kernel_rfl
theorem h7 : handFact 7 = true := by kernel_rfl
theorem h8 : handFact 8 = true := by kernel_rfl
theorem h9 : handFact 9 = true := by kernel_rfl
theorem h10 : handFact 10 = true := by kernel_rfl
theorem h11 : handFact 11 = true := by kernel_rfl
end Kv
end Go.Proofs.YtbnnfoimkdbjaaaGreatDoor
