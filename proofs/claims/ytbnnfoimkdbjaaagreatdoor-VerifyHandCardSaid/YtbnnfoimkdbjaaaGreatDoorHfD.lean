/- Faulty modules by hand: calls that are run apart. -/
import Derived.Test.YtbnnfoimkdbjaaaGreatDoorHvA
namespace Go.Proofs.YtbnnfoimkdbjaaaGreatDoor
namespace Kv
open Ev
set_option maxRecDepth 1000000
theorem f48_2337 : orcFact (ev [] none) o48_2337 = true := by kernel_rfl
theorem f48_3772 : orcFact (ev [] none) o48_3772 = true := by kernel_rfl
theorem f48_20000 : orcFact (ev [] none) o48_20000 = true := by kernel_rfl
theorem f4_64 : orcFact (ev [o5_64, o7_757, o48_2337, o48_3772] none) o4_64 = true := by kernel_rfl
end Kv
end Go.Proofs.YtbnnfoimkdbjaaaGreatDoor
