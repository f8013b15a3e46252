/- The fold laws' first returns true. -/
import Derived.Test.YtbemdcbglpjmiaaGreatDoorFqB
import Derived.Test.YtbemdcbglpjmiaaGreatDoorFqF
namespace Go.Proofs.YtbemdcbglpjmiaaGreatDoor
open Go.RowKit
namespace Kv
open Ev
set_option maxRecDepth 100000
/-- Where the blocks lie ahead of the call. -/
def mStart (d : Nat) : M := fun i => if i < 63 then some (i, 0) else if i = 63 then some (63, d) else none
theorem rel_start (W : World) : HR W (mStart W.drawn) (lst 64 []) W := by
  refine ⟨Below.refl _ _, fun g hg => by simp [mStart, hg], by simp [mStart], Nat.le_refl 64, fun i hi => ?_, fun i r hi hr => ?_, fun i b r hi hr => ?_, fun i j bi bj r q hi hj hr hq _ => ?_⟩
  · have hi : 64 ≤ i := hi
    unfold mStart
    rw [if_neg (by omega), if_neg (by omega)]
  · have : mStart W.drawn i = none := by
      unfold mStart
      rw [if_neg (by omega), if_neg (by omega)]
    rw [this] at hr; cases hr
  · have hi : (T.nil : T B).get i = some b := hi
    rw [T.get_nil] at hi; cases hi
  · have hi : (T.nil : T B).get i = some bi := hi
    rw [T.get_nil] at hi; cases hi
theorem first_any (W : World) : Calls Tryz.prog 6 #[] W fun e w' => e = .returned (.bool true) ∧ Below W.heap.size W w' := by
  have hfact := first_fact
  unfold firstFact at hfact
  split at hfact
  · rename_i y hy
    have hyv := vSame_eq hfact
    have hok := ev_ok (w0 := W) (l := []) (fun o h => by cases h)
    rcases hok 6 [] _ y.1 y.2 (mStart W.drawn) W #[] hy (rel_start W) trivial with ⟨m', v', w', _, h5, _⟩ | ⟨_, h6⟩
    · have hname : ¬ (Tryz.f6.name = "runtime.NumGoroutine") := by
        have : (Tryz.f6.name == "runtime.NumGoroutine") = false := by kernel_rfl
        simpa using this
      have hbody : ¬ (Tryz.f6.body = none) := fun h => by
        have : Tryz.f6.body.isNone = false := by kernel_rfl
        rw [h] at this
        cases this
      have he : (callFunc 6 #[]).run Tryz.prog W = .ok (.enter 6 #[]) W := by simp [callFunc, Tryz.func6, hname, hbody]
      rw [he] at h5
      cases h5
    · refine h6.mono ?_
      rintro e w' ⟨m', v', rfl, _, hH, hvr⟩
      rw [hyv] at hvr
      have hvr : v' = .bool true := hvr
      subst hvr
      exact ⟨rfl, hH.below⟩
  · cases hfact
end Kv
end Go.Proofs.YtbemdcbglpjmiaaGreatDoor
