/- EmitTells: for every argument the law returns true, and the arguments read as they did, where the listed variables hold what the program's text lays. No further condition is asked. -/
import Derived.Test.YtngfeflemblljaaGreatDoorEmP
import Derived.Test.YtngfeflemblljaaGreatDoorEmQ
namespace Go.Proofs.YtngfeflemblljaaGreatDoor.emitTells
open Go.ChangeShapes Go.WideShapes Go.ChangeAt Go.WideMaps Go.WideElems Go.RowKit
theorem named : Tryz.prog.funcNamed Rows.emitTellsRow.func = some 3 := by kernel_rfl
theorem inst : Tryz.f3.isInstance Tryz.prog Rows.emitTellsRow.origin Rows.emitTellsRow.targs := of_decide_eq_true (by kernel_rfl)
theorem wrap : Tryz.f3.isWrapper Tryz.prog Rows.emitTellsRow.wrapper Rows.emitTellsRow.mainSum := by
  unfold Func.isWrapper
  first | (rw [if_pos (by decide +kernel)]; kernel_rfl) | (rw [if_neg (by decide +kernel)]; exact ⟨rfl, rfl⟩)
theorem said : Rows.EmitTellsSaid :=
  OpenClaim.holds_of_wide 3 Tryz.f3 rfl rfl rfl rfl rfl rfl rfl ⟨rfl, rfl, rfl, rfl, rfl⟩ rfl rfl rfl rfl rfl named Tryz.func3 joined inst wrap
    (fun os started H enc _ => lifted os started H enc)
theorem textWf : Rows.emitTellsRow.wfByText (OpenSpec.ofChange Rows.emitTellsSpec) = true := by kernel_rfl
theorem mainIs : Tryz.pinned.checked.prog.mainIs = some (true, "d39441b38d925fafbc8747a86d8458d8fc85d4411a71b37e7509b63fc33d9a2e".toList) := by kernel_rfl
theorem noStandIn : ([22, 3, 23, 24].all fun u => !Tryz.prog.wantsStandIn u) = true := by kernel_rfl
theorem noLooks : false = Tryz.prog.looks [] := by kernel_rfl
end Go.Proofs.YtngfeflemblljaaGreatDoor.emitTells
