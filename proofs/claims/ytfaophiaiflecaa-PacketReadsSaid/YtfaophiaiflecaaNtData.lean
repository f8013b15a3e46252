/- Contracts: data.May, reparteeref1.DataMay. -/
import Derived.Test.YtfaophiaiflecaaNtName
import Derived.Test.YtfaophiaiflecaaPkFld2
namespace Go.Proofs.Ytfaophiaiflecaa
open Go.RowKit

/-- May a value of the kind k be, with the number n, the text s, a list of so many? -/
def dataF (k n : Int) (s : ByteArray) (len : Nat) : Bool :=
  if k = 0 then decide (n = 0) && (s.toList == []) && decide (len = 0)
  else if k = 1 then (s.toList == []) && decide (len = 0)
  else if k = 2 then (decide (n = 0) || decide (n = 1)) && (s.toList == []) && decide (len = 0)
  else if k = 3 then decide (s.size ≤ 24) && decide (n = 0) && decide (len = 0)
  else if k = 4 then decide (len ≤ 16) && decide (n = 0) && (s.toList == [])
  else if k = 5 then !(s.toList == []) && decide (0 ≤ n) && decide (n < 5) && decide (len = 0)
  else false
set_option maxRecDepth 100000 in
set_option maxHeartbeats 8000000 in
theorem dataMay_any (k m : Int) (s : ByteArray) (A : Option Addr) (len c : Nat) (w : World) :
    Calls Try.prog 36 #[.agg #[.int .i64 k, .int .i64 m, .string s, .slice A len c]] w fun e w' => e = .returned (.bool (dataF k m s len)) ∧ Below w.heap.size w w' := by
  have BF := Lib.hid (below_allocS (Below.refl _ _) (.cells #[.int .i64 k, .int .i64 m, .string s, .slice A len c] 36) : Below w.heap.size w _)
  by_cases h0 : k = 0
  · subst h0
    go_enter Try.func36, Try.ntmps36
    go_wp2
    all_goals
      go_ret
      refine ⟨ret_bool ?_, below_allocS (Below.refl _ _) _⟩
      simp only [dataF, Int.reduceEq, if_true, if_false]
      simp_all
      try first
        | omega
        | (rw [Bool.eq_iff_iff]; simp <;> omega)
  by_cases h1 : k = 1
  · subst h1
    go_enter Try.func36, Try.ntmps36
    go_wp2
    all_goals
      go_ret
      refine ⟨ret_bool ?_, below_allocS (Below.refl _ _) _⟩
      simp only [dataF, Int.reduceEq, if_true, if_false]
      simp_all
      try first
        | omega
        | (rw [Bool.eq_iff_iff]; simp <;> omega)
  by_cases h2 : k = 2
  · subst h2
    go_enter Try.func36, Try.ntmps36
    go_wp2
    all_goals
      go_ret
      refine ⟨ret_bool ?_, below_allocS (Below.refl _ _) _⟩
      simp only [dataF, Int.reduceEq, if_true, if_false]
      simp_all
      try first
        | omega
        | (rw [Bool.eq_iff_iff]; simp <;> omega)
  by_cases h3 : k = 3
  · subst h3
    go_enter Try.func36, Try.ntmps36
    go_wp2
    all_goals
      go_ret
      refine ⟨ret_bool ?_, below_allocS (Below.refl _ _) _⟩
      simp only [dataF, Int.reduceEq, if_true, if_false]
      simp_all
      try first
        | omega
        | (rw [Bool.eq_iff_iff]; simp <;> omega)
  by_cases h4 : k = 4
  · subst h4
    go_enter Try.func36, Try.ntmps36
    go_wp2
    all_goals
      go_ret
      refine ⟨ret_bool ?_, below_allocS (Below.refl _ _) _⟩
      simp only [dataF, Int.reduceEq, if_true, if_false]
      simp_all
      try first
        | omega
        | (rw [Bool.eq_iff_iff]; simp <;> omega)
  by_cases h5 : k = 5
  · subst h5
    go_enter Try.func36, Try.ntmps36
    go_wp2
    all_goals
      go_ret
      refine ⟨ret_bool ?_, below_allocS (Below.refl _ _) _⟩
      simp only [dataF, Int.reduceEq, if_true, if_false]
      simp_all
      try first
        | omega
        | (rw [Bool.eq_iff_iff]; simp <;> omega)
  have k0 : (k == 0) = false := by simp; exact h0
  have k1 : (k == 1) = false := by simp; exact h1
  have k2 : (k == 2) = false := by simp; exact h2
  have k3 : (k == 3) = false := by simp; exact h3
  have k4 : (k == 4) = false := by simp; exact h4
  have k5 : (k == 5) = false := by simp; exact h5
  have hd : dataF k m s len = false := by unfold dataF; rw [if_neg h0, if_neg h1, if_neg h2, if_neg h3, if_neg h4, if_neg h5]
  have HD := Lib.hid hd
  clear hd
  go_enter Try.func36, Try.ntmps36
  go_wp2
  go_ret
  exact ⟨ret_bool HD.out.symm, BF.out⟩
set_option maxRecDepth 100000 in
set_option maxHeartbeats 8000000 in
theorem rdataMay_any (k m : Int) (s : ByteArray) (A : Option Addr) (len c : Nat) (w : World) :
    Calls Try.prog 69 #[.agg #[.int .i64 k, .int .i64 m, .string s, .slice A len c]] w fun e w' => e = .returned (.bool (dataF k m s len)) ∧ Below w.heap.size w w' := by
  have BF := Lib.hid (below_allocS (Below.refl _ _) (.cells #[.int .i64 k, .int .i64 m, .string s, .slice A len c] 36) : Below w.heap.size w _)
  by_cases h0 : k = 0
  · subst h0
    go_enter Try.func69, Try.ntmps69
    go_wp2
    all_goals
      go_ret
      refine ⟨ret_bool ?_, below_allocS (Below.refl _ _) _⟩
      simp only [dataF, Int.reduceEq, if_true, if_false]
      simp_all
      try first
        | omega
        | (rw [Bool.eq_iff_iff]; simp <;> omega)
  by_cases h1 : k = 1
  · subst h1
    go_enter Try.func69, Try.ntmps69
    go_wp2
    all_goals
      go_ret
      refine ⟨ret_bool ?_, below_allocS (Below.refl _ _) _⟩
      simp only [dataF, Int.reduceEq, if_true, if_false]
      simp_all
      try first
        | omega
        | (rw [Bool.eq_iff_iff]; simp <;> omega)
  by_cases h2 : k = 2
  · subst h2
    go_enter Try.func69, Try.ntmps69
    go_wp2
    all_goals
      go_ret
      refine ⟨ret_bool ?_, below_allocS (Below.refl _ _) _⟩
      simp only [dataF, Int.reduceEq, if_true, if_false]
      simp_all
      try first
        | omega
        | (rw [Bool.eq_iff_iff]; simp <;> omega)
  by_cases h3 : k = 3
  · subst h3
    go_enter Try.func69, Try.ntmps69
    go_wp2
    all_goals
      go_ret
      refine ⟨ret_bool ?_, below_allocS (Below.refl _ _) _⟩
      simp only [dataF, Int.reduceEq, if_true, if_false]
      simp_all
      try first
        | omega
        | (rw [Bool.eq_iff_iff]; simp <;> omega)
  by_cases h4 : k = 4
  · subst h4
    go_enter Try.func69, Try.ntmps69
    go_wp2
    all_goals
      go_ret
      refine ⟨ret_bool ?_, below_allocS (Below.refl _ _) _⟩
      simp only [dataF, Int.reduceEq, if_true, if_false]
      simp_all
      try first
        | omega
        | (rw [Bool.eq_iff_iff]; simp <;> omega)
  by_cases h5 : k = 5
  · subst h5
    go_enter Try.func69, Try.ntmps69
    go_wp2
    all_goals
      go_ret
      refine ⟨ret_bool ?_, below_allocS (Below.refl _ _) _⟩
      simp only [dataF, Int.reduceEq, if_true, if_false]
      simp_all
      try first
        | omega
        | (rw [Bool.eq_iff_iff]; simp <;> omega)
  have k0 : (k == 0) = false := by simp; exact h0
  have k1 : (k == 1) = false := by simp; exact h1
  have k2 : (k == 2) = false := by simp; exact h2
  have k3 : (k == 3) = false := by simp; exact h3
  have k4 : (k == 4) = false := by simp; exact h4
  have k5 : (k == 5) = false := by simp; exact h5
  have hd : dataF k m s len = false := by unfold dataF; rw [if_neg h0, if_neg h1, if_neg h2, if_neg h3, if_neg h4, if_neg h5]
  have HD := Lib.hid hd
  clear hd
  go_enter Try.func69, Try.ntmps69
  go_wp2
  go_ret
  exact ⟨ret_bool HD.out.symm, BF.out⟩
end Go.Proofs.Ytfaophiaiflecaa
