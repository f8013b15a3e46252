/- FoldHand: closed facts. -/
import Derived.Test.YtbemdcbglpjmiaaGreatDoorHdB
namespace Go.Proofs.YtbemdcbglpjmiaaGreatDoor
namespace Kv
open Ev
set_option maxRecDepth 1000000
theorem hf1_0 : handFact 1 0 = true := by kernel_rfl
theorem hf1_1 : handFact 1 1 = true := by kernel_rfl
theorem hf1_4 : handFact 1 4 = true := by kernel_rfl
theorem hf1_5 : handFact 1 5 = true := by kernel_rfl
end Kv
end Go.Proofs.YtbemdcbglpjmiaaGreatDoor
