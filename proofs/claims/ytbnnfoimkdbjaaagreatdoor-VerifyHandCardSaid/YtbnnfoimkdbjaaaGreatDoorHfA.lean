/- Faulty modules by hand: calls that are run apart. -/
import Derived.Test.YtbnnfoimkdbjaaaGreatDoorHvA
namespace Go.Proofs.YtbnnfoimkdbjaaaGreatDoor
namespace Kv
open Ev
set_option maxRecDepth 1000000
theorem f24_66 : orcFact (ev [] none) o24_66 = true := by kernel_rfl
theorem f24_4046 : orcFact (ev [] none) o24_4046 = true := by kernel_rfl
theorem f24_4768 : orcFact (ev [] none) o24_4768 = true := by kernel_rfl
end Kv
end Go.Proofs.YtbnnfoimkdbjaaaGreatDoor
