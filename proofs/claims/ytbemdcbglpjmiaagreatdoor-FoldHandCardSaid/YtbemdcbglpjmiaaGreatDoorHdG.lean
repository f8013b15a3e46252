/- FoldHand: the digits of all numbers below 1000: closed facts. -/
import Derived.Test.YtbemdcbglpjmiaaGreatDoorHdB
namespace Go.Proofs.YtbemdcbglpjmiaaGreatDoor
namespace Kv
open Ev
set_option maxRecDepth 1000000
theorem dg0 : digAll 200 0 = true := by kernel_rfl
theorem dg1 : digAll 200 200 = true := by kernel_rfl
theorem dg2 : digAll 200 400 = true := by kernel_rfl
theorem dg3 : digAll 200 600 = true := by kernel_rfl
theorem dg4 : digAll 200 800 = true := by kernel_rfl
end Kv
end Go.Proofs.YtbemdcbglpjmiaaGreatDoor
