/- VerifyHand: for every argument the law returns true, and the argument reads as it did, where the listed variables hold what the program's text lays. No further condition is asked. -/
import Derived.Test.YtbnnfoimkdbjaaaGreatDoorHvP
import Derived.Test.YtbnnfoimkdbjaaaGreatDoorHvQ
namespace Go.Proofs.YtbnnfoimkdbjaaaGreatDoor.hand
open Go.ChangeShapes Go.WideShapes Go.ChangeAt Go.WideMaps Go.WideElems Go.RowKit
theorem named : Tryz.prog.funcNamed Rows.verifyHandRow.func = some 3 := by kernel_rfl
theorem inst : Tryz.f3.isInstance Tryz.prog Rows.verifyHandRow.origin Rows.verifyHandRow.targs := of_decide_eq_true (by kernel_rfl)
theorem wrap : Tryz.f3.isWrapper Tryz.prog Rows.verifyHandRow.wrapper Rows.verifyHandRow.mainSum := by
  unfold Func.isWrapper
  first | (rw [if_pos (by decide +kernel)]; kernel_rfl) | (rw [if_neg (by decide +kernel)]; exact ⟨rfl, rfl⟩)
theorem said : Rows.VerifyHandSaid :=
  OpenClaim.holds_of_wide 3 Tryz.f3 rfl rfl rfl rfl rfl rfl rfl ⟨rfl, rfl, rfl, rfl, rfl⟩ rfl rfl rfl rfl rfl named Tryz.func3 joined inst wrap
    (fun os started H enc _ => lifted os started H enc)
theorem textWf : Rows.verifyHandRow.wfByText (OpenSpec.ofChange Rows.verifyHandSpec) = true := by kernel_rfl
theorem mainIs : Tryz.pinned.checked.prog.mainIs = some (true, "61c91fab193ba69c32987ca38e2b4af37bf911b990fb50ef17b6c8ab8116cbf0".toList) := by kernel_rfl
theorem noStandIn : ([3].all fun u => !Tryz.prog.wantsStandIn u) = true := by kernel_rfl
theorem noLooks : false = Tryz.prog.looks [] := by kernel_rfl
end Go.Proofs.YtbnnfoimkdbjaaaGreatDoor.hand
