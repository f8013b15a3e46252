/- The fold laws' first: the closed fact. -/
import Derived.Test.YtbemdcbglpjmiaaGreatDoorFqB
namespace Go.Proofs.YtbemdcbglpjmiaaGreatDoor
namespace Kv
open Ev
set_option maxRecDepth 1000000
theorem first_fact : firstFact = true := by kernel_rfl
end Kv
end Go.Proofs.YtbemdcbglpjmiaaGreatDoor
