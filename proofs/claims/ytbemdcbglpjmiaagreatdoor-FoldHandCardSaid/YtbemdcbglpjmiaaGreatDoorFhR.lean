/- FoldHand: for every argument the law returns true, and the arguments read as they did, where the listed variables hold what the program's text lays. No further condition is asked. -/
import Derived.Test.YtbemdcbglpjmiaaGreatDoorFhP
import Derived.Test.YtbemdcbglpjmiaaGreatDoorFhQ
namespace Go.Proofs.YtbemdcbglpjmiaaGreatDoor.foldHand
open Go.ChangeShapes Go.WideShapes Go.ChangeAt Go.WideMaps Go.WideElems Go.RowKit
theorem named : Tryz.prog.funcNamed Rows.foldHandRow.func = some 5 := by kernel_rfl
theorem inst : Tryz.f5.isInstance Tryz.prog Rows.foldHandRow.origin Rows.foldHandRow.targs := of_decide_eq_true (by kernel_rfl)
theorem wrap : Tryz.f5.isWrapper Tryz.prog Rows.foldHandRow.wrapper Rows.foldHandRow.mainSum := by
  unfold Func.isWrapper
  first | (rw [if_pos (by decide +kernel)]; kernel_rfl) | (rw [if_neg (by decide +kernel)]; exact ⟨rfl, rfl⟩)
theorem said : Rows.FoldHandSaid :=
  OpenClaim.holds_of_wide 5 Tryz.f5 rfl rfl rfl rfl rfl rfl rfl ⟨rfl, rfl, rfl, rfl, rfl⟩ rfl rfl rfl rfl rfl named Tryz.func5 joined inst wrap
    (fun os started H enc _ => lifted os started H enc)
theorem textWf : Rows.foldHandRow.wfByText (OpenSpec.ofChange Rows.foldHandSpec) = true := by kernel_rfl
theorem mainIs : Tryz.pinned.checked.prog.mainIs = some (true, "0d57b491f3e73d249302d31bf87a6f98c5fd5a1b7ce57057780ac51a66d5aab3".toList) := by kernel_rfl
theorem noStandIn : ([3, 2].all fun u => !Tryz.prog.wantsStandIn u) = true := by kernel_rfl
theorem noLooks : true = Tryz.prog.looks [] := by kernel_rfl
end Go.Proofs.YtbemdcbglpjmiaaGreatDoor.foldHand
