/- FoldHand: closed facts. -/
import Derived.Test.YtbemdcbglpjmiaaGreatDoorHdB
namespace Go.Proofs.YtbemdcbglpjmiaaGreatDoor
namespace Kv
open Ev
set_option maxRecDepth 1000000
theorem hf2_0 : handFact 2 0 = true := by kernel_rfl
theorem hf2_1 : handFact 2 1 = true := by kernel_rfl
theorem hf2_4 : handFact 2 4 = true := by kernel_rfl
theorem hf2_5 : handFact 2 5 = true := by kernel_rfl
end Kv
end Go.Proofs.YtbemdcbglpjmiaaGreatDoor
