/- Contracts: fold.of; reparteeref30.written. -/
import Derived.Test.YtbemdcbglpjmiaaGreatDoorFoC
namespace Go.Proofs.YtbemdcbglpjmiaaGreatDoor
open Go.RowKit

def OfPost (r : Option Tm) (w : World) (e : Ending) (w' : World) : Prop :=
  Below w.heap.size w w' ∧ match r with
    | some u => ∃ p, e = .returned (.pointer p) ∧ TreeAt w' w.heap.size (.node u .nil .nil) p
    | none => e = .returned (.pointer none)
theorem of_some {w w' : World} {u : Tm} {ty : TypeId} {n : Nat} (hn : w'.heap.size = n) (hb : Below w.heap.size w w') : OfPost (some u) w (.returned (.pointer (some ⟨n, 0, none⟩))) (w'.alloc (.cells (u.node none none) ty)) := by
  subst hn
  exact ⟨below_push hb _, _, rfl, TreeAt.new (x := .nil) (y := .nil) (p := none) (q := none) u ty rfl rfl hb.size⟩
theorem of_some_drew {w w' : World} {u : Tm} {ty : TypeId} {n : Nat} (hn : w'.heap.size = n) (hb : Below w.heap.size w w') : OfPost (some u) w (.returned (.pointer (some ⟨n, 0, none⟩))) (w'.alloc (.cells (u.node none none) ty)).drew := by
  subst hn
  exact ⟨(below_push hb _).drew, _, rfl, (TreeAt.new (x := .nil) (y := .nil) (p := none) (q := none) u ty rfl rfl hb.size).below ((Below.refl _ _).drew)⟩
set_option maxRecDepth 100000 in
set_option maxHeartbeats 8000000 in
theorem of_any (x : Vl) (A : Option Addr) (c : Nat) (w : World) : Calls Tryz.prog 45 #[x.val A c] w (OfPost (writV x) w) := by
  obtain ⟨k, n, s, l⟩ := x
  unfold Vl.val
  simp only
  by_cases h1 : k = 1
  · subst h1
    rw [show writV ⟨1, n, s, l⟩ = some ⟨1, e0, n, e0, -1, -1⟩ by simp [writV]]
    go_enter Tryz.func45, Tryz.ntmps45
    go_wp2_with fail
    go_region
    all_goals
      go_wp2_with fail
      go_ret
      first
        | exact of_some (u := ⟨1, e0, n, e0, -1, -1⟩) (by simp) (below_push (below_new _ _) _)
        | exact of_some_drew (u := ⟨1, e0, n, e0, -1, -1⟩) (by simp) (below_push (below_new _ _) _)
  have e1 : (k == 1) = false := by simpa using h1
  by_cases h2 : k = 2
  · subst h2
    rw [show writV ⟨2, n, s, l⟩ = some ⟨2, e0, n, e0, -1, -1⟩ by simp [writV]]
    go_enter Tryz.func45, Tryz.ntmps45
    go_wp2_with fail
    go_region
    all_goals
      go_wp2_with fail
      go_ret
      first
        | exact of_some (u := ⟨2, e0, n, e0, -1, -1⟩) (by simp) (below_push (below_new _ _) _)
        | exact of_some_drew (u := ⟨2, e0, n, e0, -1, -1⟩) (by simp) (below_push (below_new _ _) _)
  have e2 : (k == 2) = false := by simpa using h2
  by_cases h3 : k = 3
  · subst h3
    rw [show writV ⟨3, n, s, l⟩ = some ⟨3, e0, 0, s, -1, -1⟩ by simp [writV]]
    go_enter Tryz.func45, Tryz.ntmps45
    go_wp2_with fail
    go_region
    all_goals
      go_wp2_with fail
      go_ret
      first
        | exact of_some (u := ⟨3, e0, 0, s, -1, -1⟩) (by simp) (below_push (below_new _ _) _)
        | exact of_some_drew (u := ⟨3, e0, 0, s, -1, -1⟩) (by simp) (below_push (below_new _ _) _)
  have e3 : (k == 3) = false := by simpa using h3
  by_cases h4 : k = 4
  · subst h4
    by_cases hl : l = []
    · subst hl
      rw [show writV ⟨4, n, s, []⟩ = some ⟨4, e0, 0, e0, -1, -1⟩ by simp [writV]]
      go_enter Tryz.func45, Tryz.ntmps45
      go_wp2_with fail
      go_ret
      exact of_some (u := ⟨4, e0, 0, e0, -1, -1⟩) (by simp) (below_push (below_new _ _) _)
    · rw [show writV ⟨4, n, s, l⟩ = none by simp [writV, hl]]
      have el : ((l.length : Int) == 0) = false := by simpa using hl
      clear hl
      go_enter Tryz.func45, Tryz.ntmps45
      go_wp2_with fail
      go_ret
      exact ⟨below_push (below_new _ _) _, rfl⟩
  have e4 : (k == 4) = false := by simpa using h4
  rw [show writV ⟨k, n, s, l⟩ = none by simp [writV, h1, h2, h3, h4]]
  go_enter Tryz.func45, Tryz.ntmps45
  go_wp2_with fail
  go_ret
  exact ⟨below_push (below_new _ _) _, rfl⟩
def WrPost (r : Option Tm) (w : World) (e : Ending) (w' : World) : Prop :=
  Below w.heap.size w w' ∧ match r with
    | some u => e = .returned (.tuple #[.agg u.cells.toArray, .bool true])
    | none => e = .returned (.tuple #[.agg (Tm.cells ⟨0, e0, 0, e0, -1, -1⟩).toArray, .bool false])
set_option maxRecDepth 100000 in
set_option maxHeartbeats 8000000 in
theorem written_any (x : Vl) (A : Option Addr) (c : Nat) (w : World) : Calls Tryz.prog 47 #[x.val A c] w (WrPost (writV x) w) := by
  obtain ⟨k, n, s, l⟩ := x
  unfold Vl.val
  simp only
  by_cases h1 : k = 1
  · subst h1
    rw [show writV ⟨1, n, s, l⟩ = some ⟨1, e0, n, e0, -1, -1⟩ by simp [writV]]
    go_enter Tryz.func47, Tryz.ntmps47
    go_wp2_with fail
    go_region
    all_goals
      go_wp2_with fail
      refine bodyPost_ret (v := .tuple #[.agg #[.int .i64 1, .string e0, .int .i64 n, .string e0, .int .i64 (-1), .int .i64 (-1)], .bool true]) (by simp [results, Tryz.results47, go_sem, e0]) rfl ?_
      exact ⟨by first | exact below_push (below_push (below_new _ _) _) _ | exact Below.drew (below_push (below_push (below_new _ _) _) _), rfl⟩
  have e1 : (k == 1) = false := by simpa using h1
  by_cases h2 : k = 2
  · subst h2
    rw [show writV ⟨2, n, s, l⟩ = some ⟨2, e0, n, e0, -1, -1⟩ by simp [writV]]
    go_enter Tryz.func47, Tryz.ntmps47
    go_wp2_with fail
    go_region
    all_goals
      go_wp2_with fail
      refine bodyPost_ret (v := .tuple #[.agg #[.int .i64 2, .string e0, .int .i64 n, .string e0, .int .i64 (-1), .int .i64 (-1)], .bool true]) (by simp [results, Tryz.results47, go_sem, e0]) rfl ?_
      exact ⟨by first | exact below_push (below_push (below_new _ _) _) _ | exact Below.drew (below_push (below_push (below_new _ _) _) _), rfl⟩
  have e2 : (k == 2) = false := by simpa using h2
  by_cases h3 : k = 3
  · subst h3
    rw [show writV ⟨3, n, s, l⟩ = some ⟨3, e0, 0, s, -1, -1⟩ by simp [writV]]
    go_enter Tryz.func47, Tryz.ntmps47
    go_wp2_with fail
    go_region
    all_goals
      go_wp2_with fail
      refine bodyPost_ret (v := .tuple #[.agg #[.int .i64 3, .string e0, .int .i64 0, .string s, .int .i64 (-1), .int .i64 (-1)], .bool true]) (by simp [results, Tryz.results47, go_sem, e0]) rfl ?_
      exact ⟨by first | exact below_push (below_push (below_new _ _) _) _ | exact Below.drew (below_push (below_push (below_new _ _) _) _), rfl⟩
  have e3 : (k == 3) = false := by simpa using h3
  by_cases h4 : k = 4
  · subst h4
    by_cases hl : l = []
    · subst hl
      rw [show writV ⟨4, n, s, []⟩ = some ⟨4, e0, 0, e0, -1, -1⟩ by simp [writV]]
      go_enter Tryz.func47, Tryz.ntmps47
      go_wp2_with fail
      refine bodyPost_ret (v := .tuple #[.agg #[.int .i64 4, .string e0, .int .i64 0, .string e0, .int .i64 (-1), .int .i64 (-1)], .bool true]) (by simp [results, Tryz.results47, go_sem, e0]) rfl ?_
      exact ⟨by first | exact below_push (below_push (below_new _ _) _) _ | exact Below.drew (below_push (below_push (below_new _ _) _) _), rfl⟩
    · rw [show writV ⟨4, n, s, l⟩ = none by simp [writV, hl]]
      have el : ((l.length : Int) == 0) = false := by simpa using hl
      clear hl
      go_enter Tryz.func47, Tryz.ntmps47
      go_wp2_with fail
      refine bodyPost_ret (v := .tuple #[.agg #[.int .i64 0, .string e0, .int .i64 0, .string e0, .int .i64 (-1), .int .i64 (-1)], .bool false]) (by simp [results, Tryz.results47, go_sem, e0]) rfl ?_
      exact ⟨by first | exact below_push (below_push (below_new _ _) _) _ | exact Below.drew (below_push (below_push (below_new _ _) _) _), rfl⟩
  have e4 : (k == 4) = false := by simpa using h4
  rw [show writV ⟨k, n, s, l⟩ = none by simp [writV, h1, h2, h3, h4]]
  go_enter Tryz.func47, Tryz.ntmps47
  go_wp2_with fail
  refine bodyPost_ret (v := .tuple #[.agg #[.int .i64 0, .string e0, .int .i64 0, .string e0, .int .i64 (-1), .int .i64 (-1)], .bool false]) (by simp [results, Tryz.results47, go_sem, e0]) rfl ?_
  exact ⟨by first | exact below_push (below_push (below_new _ _) _) _ | exact Below.drew (below_push (below_push (below_new _ _) _) _), rfl⟩
end Go.Proofs.YtbemdcbglpjmiaaGreatDoor
