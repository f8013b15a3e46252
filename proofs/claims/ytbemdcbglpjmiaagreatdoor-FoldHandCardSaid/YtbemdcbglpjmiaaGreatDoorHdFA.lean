/- FoldHand: closed facts. -/
import Derived.Test.YtbemdcbglpjmiaaGreatDoorHdB
namespace Go.Proofs.YtbemdcbglpjmiaaGreatDoor
namespace Kv
open Ev
set_option maxRecDepth 1000000
theorem hf0_0 : handFact 0 0 = true := by kernel_rfl
theorem hf0_1 : handFact 0 1 = true := by kernel_rfl
theorem hf0_2 : handFact 0 2 = true := by kernel_rfl
theorem hf0_3 : handFact 0 3 = true := by kernel_rfl
theorem hf0_4 : handFact 0 4 = true := by kernel_rfl
end Kv
end Go.Proofs.YtbemdcbglpjmiaaGreatDoor
