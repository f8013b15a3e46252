/- FoldHand: closed facts. -/
import Derived.Test.YtbemdcbglpjmiaaGreatDoorHdB
namespace Go.Proofs.YtbemdcbglpjmiaaGreatDoor
namespace Kv
open Ev
set_option maxRecDepth 1000000
theorem hf0_5 : handFact 0 5 = true := by kernel_rfl
theorem hf0_6 : handFact 0 6 = true := by kernel_rfl
theorem hf0_7 : handFact 0 7 = true := by kernel_rfl
theorem hf0_8 : handFact 0 8 = true := by kernel_rfl
end Kv
end Go.Proofs.YtbemdcbglpjmiaaGreatDoor
