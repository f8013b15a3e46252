/- FoldHand: closed facts. -/
import Derived.Test.YtbemdcbglpjmiaaGreatDoorHdB
namespace Go.Proofs.YtbemdcbglpjmiaaGreatDoor
namespace Kv
open Ev
set_option maxRecDepth 1000000
theorem hf3_0 : handFact 3 0 = true := by kernel_rfl
theorem hf3_1 : handFact 3 1 = true := by kernel_rfl
theorem hf3_4 : handFact 3 4 = true := by kernel_rfl
theorem hf3_5 : handFact 3 5 = true := by kernel_rfl
end Kv
end Go.Proofs.YtbemdcbglpjmiaaGreatDoor
