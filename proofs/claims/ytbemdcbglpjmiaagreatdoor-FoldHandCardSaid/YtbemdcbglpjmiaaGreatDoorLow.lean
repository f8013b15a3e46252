/- Contract: reparteeplay.Low. -/
import Derived.Test.YtbemdcbglpjmiaaGreatDoorBase
namespace Go.Proofs.YtbemdcbglpjmiaaGreatDoor
open Go.RowKit

theorem low_any (x n : Int) (w : World) (hn : n ≤ 9223372036854775807) :
    Calls Tryz.prog 16 #[.int .i64 x, .int .i64 n] w fun e w' => e = .returned (.int .i64 (lowF x n)) ∧ w = w' := by
  by_cases h : n < 1
  · go_enter Tryz.func16, Tryz.ntmps16
    go_wp2
    go_ret
    exact ⟨ret_int (by simp [lowF, h]), rfl⟩
  · have hz : IntKind.u64.wrap n = n := by simp [IntKind.wrap_u64]; omega
    have hz0 : ¬ n = 0 := by omega
    have hc := Lib.hid (low_core x n (by omega) hn)
    go_enter Tryz.func16, Tryz.ntmps16
    go_wp2
    go_ret
    exact ⟨ret_int (by have := hc.out; rw [hz] at this; exact this), rfl⟩

end Go.Proofs.YtbemdcbglpjmiaaGreatDoor
