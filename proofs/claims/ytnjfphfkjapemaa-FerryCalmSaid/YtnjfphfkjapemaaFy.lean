/- Contracts: slices.Clone, ferry.of, ferry.May, reparteeref36.FerryMay, CopyFerry. -/
import Derived.Test.YtnjfphfkjapemaaSmall
import Derived.Test.YtnjfphfkjapemaaBlk
import Derived.RegionTactic
import Derived.Deep.RegionHeld3
import Derived.Deep.RegionWith
namespace Go.Proofs.Ytnjfphfkjapemaa
open Go.RowKit

/-- A ferry, as its cells say. -/
structure Fy where
  base : Int
  sent : List ByteArray
  want : Int
def Fy.may (f : Fy) : Bool := decide (0 ≤ f.base) && decide (f.base ≤ 1099511627776) && decide (0 ≤ f.want) && decide (f.want ≤ 1099511627776)

set_option maxHeartbeats 400000 in
theorem may_any (b : Int) (A : Option Addr) (l : List ByteArray) (c : Nat) (v : Int) (w : World) :
    Calls Try.prog 17 #[.agg #[.int .i64 b, .slice A l.length c, .int .i64 v]] w fun e w' => e = .returned (.bool (Fy.may ⟨b, l, v⟩)) ∧ Below w.heap.size w w' := by
  go_enter Try.func17, Try.ntmps17
  go_wp2
  all_goals
    go_ret
    exact ⟨ret_bool (by rw [Bool.eq_iff_iff]; simp [Fy.may]; omega), (Below.refl _ _).alloc (Nat.le_refl _) _⟩

set_option maxHeartbeats 400000 in
theorem mayR_any (b : Int) (A : Option Addr) (l : List ByteArray) (c : Nat) (v : Int) (w : World) :
    Calls Try.prog 18 #[.agg #[.int .i64 b, .slice A l.length c, .int .i64 v]] w fun e w' => e = .returned (.bool (Fy.may ⟨b, l, v⟩)) ∧ Below w.heap.size w w' := by
  go_enter Try.func18, Try.ntmps18
  go_wp2
  all_goals
    go_ret
    exact ⟨ret_bool (by rw [Bool.eq_iff_iff]; simp [Fy.may]; omega), (Below.refl _ _).alloc (Nat.le_refl _) _⟩

set_option maxHeartbeats 400000 in
theorem clone_any (A : Option Addr) (l : List ByteArray) (c : Nat) (w : World) (ha : Strs w A l) (hl : l.length * 16 ≤ 140737488355328) :
    Calls Try.prog 27 #[.slice A l.length c] w fun e w' => ∃ A' c', e = .returned (.slice A' l.length c') ∧ l.length ≤ c' ∧
      w'.ownsRow w.heap.size 9 1 (.slice A' l.length c') l.length (l.map .string) ∧ Below w.heap.size w w' := by
  obtain ⟨i0, hi0, hz0, hz1, hz2⟩ := info_parts infoStr
  by_cases hA : A = none
  · subst hA
    have hnil : l = [] := by
      by_cases h : l = []
      · exact h
      · obtain ⟨b, off, h1, _⟩ := ha (by simpa using h)
        cases h1
    subst hnil
    have he := fun W => Lib.run_eql_slice_nil (P := Try.prog) W 22 9 none 0 c 0 0 Try.underlying22
    go_enter Try.func27, Try.ntmps27
    go_wp2
    go_ret
    exact ⟨none, 0, rfl, Nat.le_refl _, World.ownsRow_nil _ _ _ _, Below.refl _ _⟩
  · obtain ⟨ad, rfl⟩ : ∃ ad, A = some ad := by
      cases A with
      | none => exact absurd rfl hA
      | some a => exact ⟨a, rfl⟩
    have he := fun W => Lib.run_eql_slice_nil (P := Try.prog) W 22 9 (some ad) l.length c 0 0 Try.underlying22
    clear hA
    go_enter Try.func27, Try.ntmps27
    go_wp2_with (at_builtin; refine wpList_app _ rfl _ _ _ rfl w.heap.size 9 i0 _ 1 16 Try.underlying22 hi0 hz0 hz1 hz2 rfl (by omega) (.slice (some ⟨w.heap.size, 0, none⟩) 0 0) 0 [] rfl (World.ownsRow_lit w #[] 0 (Nat.le_refl _) (by unfold maxLen; omega) rfl) (some ad) l.length c (l.map .string) rfl (ha.alloc _) (by simp) (oneCell_strings l) (by omega) (by unfold maxLen; omega) (by simp) ?_; intro A' c' w1 hle hown hg _)
    go_ret
    refine ⟨A', c', by simp, by omega, by simpa using hown, ((Below.refl _ _).alloc (Nat.le_refl _) _).grown hg (by simp) (by simp [Value.ownBlock])⟩
end Go.Proofs.Ytnjfphfkjapemaa
