/- EmitTells' first: the closed facts. -/
import Derived.Test.YtngfeflemblljaaGreatDoorEqA
namespace Go.Proofs.YtngfeflemblljaaGreatDoor
namespace Kv
open Ev
set_option maxRecDepth 1000000
theorem uses0 : orcFact (ev []) (usesO false) = true := by kernel_rfl
theorem uses1 : orcFact (ev []) (usesO true) = true := by kernel_rfl
theorem first_fact : firstFact = true := by kernel_rfl
end Kv
end Go.Proofs.YtngfeflemblljaaGreatDoor
