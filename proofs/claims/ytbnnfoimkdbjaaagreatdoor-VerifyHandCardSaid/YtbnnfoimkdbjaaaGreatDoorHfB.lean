/- Faulty modules by hand: calls that are run apart. -/
import Derived.Test.YtbnnfoimkdbjaaaGreatDoorHvA
namespace Go.Proofs.YtbnnfoimkdbjaaaGreatDoor
namespace Kv
open Ev
set_option maxRecDepth 1000000
theorem f5_64 : orcFact (ev [o24_66] none) o5_64 = true := by kernel_rfl
theorem f5_4044 : orcFact (ev [o24_4046] none) o5_4044 = true := by kernel_rfl
theorem f5_4766 : orcFact (ev [o24_4768] none) o5_4766 = true := by kernel_rfl
end Kv
end Go.Proofs.YtbnnfoimkdbjaaaGreatDoor
