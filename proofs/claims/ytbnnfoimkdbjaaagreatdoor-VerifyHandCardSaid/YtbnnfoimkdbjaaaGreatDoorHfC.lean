/- Faulty modules by hand: calls that are run apart. -/
import Derived.Test.YtbnnfoimkdbjaaaGreatDoorHvA
namespace Go.Proofs.YtbnnfoimkdbjaaaGreatDoor
namespace Kv
open Ev
set_option maxRecDepth 1000000
theorem f30_761 : orcFact (ev [] none) o30_761 = true := by kernel_rfl
theorem f30_5463 : orcFact (ev [] none) o30_5463 = true := by kernel_rfl
theorem f7_757 : orcFact (ev [o30_761] none) o7_757 = true := by kernel_rfl
theorem f7_5459 : orcFact (ev [o30_5463] none) o7_5459 = true := by kernel_rfl
end Kv
end Go.Proofs.YtbnnfoimkdbjaaaGreatDoor
