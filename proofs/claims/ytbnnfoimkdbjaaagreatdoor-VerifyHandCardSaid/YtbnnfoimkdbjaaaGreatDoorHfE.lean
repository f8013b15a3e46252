/- Faulty modules by hand: calls that are run apart. -/
import Derived.Test.YtbnnfoimkdbjaaaGreatDoorHvA
namespace Go.Proofs.YtbnnfoimkdbjaaaGreatDoor
namespace Kv
open Ev
set_option maxRecDepth 1000000
theorem h0 : handFact 0 = true := by kernel_rfl
theorem h1 : handFact 1 = true := by kernel_rfl
theorem h2 : handFact 2 = true := by kernel_rfl
theorem h3 : handFact 3 = true := by kernel_rfl
theorem h4 : handFact 4 = true := by kernel_rfl
theorem h5 : handFact 5 = true := by kernel_rfl
end Kv
end Go.Proofs.YtbnnfoimkdbjaaaGreatDoor
