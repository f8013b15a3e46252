/- Contracts: term.operands, term.fields; reparteeref1.arity, reparteeref1.alone. -/
import Derived.Test.YtbemdcbglpjmiaaGreatDoorTmF
import Derived.Test.YtbemdcbglpjmiaaGreatDoorKb
namespace Go.Proofs.YtbemdcbglpjmiaaGreatDoor
open Go.RowKit

theorem below_allocS {w w' : World} (h : Below w.heap.size w w') (o : Obj) : Below w.heap.size w (w'.alloc o) := h.alloc h.size o
set_option maxHeartbeats 4000000 in
theorem operands_any (k : Int) (w : World) : Calls Tryz.prog 41 #[.int .i64 k] w fun e w' => e = .returned (.int .i64 (arF k)) ∧ w = w' := by
  go_enter Tryz.func41, Tryz.ntmps41
  go_wp2
  all_goals
    go_ret
    refine ⟨ret_int ?_, rfl⟩
    try simp only [beq_iff_eq, beq_eq_false_iff_ne] at *
    unfold arF
    repeat' split
    all_goals first
      | rfl
      | omega
set_option maxHeartbeats 4000000 in
theorem arity_any (k : Int) (w : World) : Calls Tryz.prog 49 #[.int .i64 k] w fun e w' => e = .returned (.int .i64 (arF k)) ∧ w = w' := by
  go_enter Tryz.func49, Tryz.ntmps49
  go_wp2
  all_goals
    go_ret
    refine ⟨ret_int ?_, rfl⟩
    try simp only [beq_iff_eq, beq_eq_false_iff_ne] at *
    unfold arF
    repeat' split
    all_goals first
      | rfl
      | omega
set_option maxRecDepth 100000 in
set_option maxHeartbeats 8000000 in
theorem fields_any (k : Int) (s : ByteArray) (n : Int) (x : ByteArray) (l r : Int) (w : World) :
    Calls Tryz.prog 42 #[.agg #[.int .i64 k, .string s, .int .i64 n, .string x, .int .i64 l, .int .i64 r]] w fun e w' => e = .returned (.bool (fldF ⟨k, s, n, x, l, r⟩)) ∧ Below w.heap.size w w' := by
  by_cases h0 : k = 0
  · subst h0
    have CN := Lib.hid (fun W => name_any s W)
    go_enter Tryz.func42, Tryz.ntmps42
    go_wp2_with fail
    refine (CN.out _).mono ?_
    rintro e w1 ⟨rfl, rfl⟩
    rcases hN : nameF s with _ | _
    · have HN := Lib.hid hN
      clear hN
      go_wp2_with fail
      all_goals
        go_ret
        exact ⟨ret_bool (by simp [fldF, HN.out]), below_allocS (Below.refl _ _) _⟩
    · have HN := Lib.hid hN
      clear hN
      go_wp2_with fail
      all_goals
        go_ret
        refine ⟨ret_bool ?_, below_allocS (Below.refl _ _) _⟩
        simp only [fldF, if_true, HN.out]
        simp_all
  by_cases h1 : k = 1
  · subst h1
    go_enter Tryz.func42, Tryz.ntmps42
    go_wp2_with fail
    all_goals
      go_ret
      refine ⟨ret_bool ?_, below_allocS (Below.refl _ _) _⟩
      simp only [fldF, Int.reduceEq, if_true, if_false]
      simp_all
  by_cases h2 : k = 2
  · subst h2
    go_enter Tryz.func42, Tryz.ntmps42
    go_wp2_with fail
    all_goals
      go_ret
      refine ⟨ret_bool ?_, below_allocS (Below.refl _ _) _⟩
      simp only [fldF, Int.reduceEq, if_true, if_false]
      simp_all
      try (rw [Bool.eq_iff_iff]; simp; omega)
  by_cases h3 : k = 3
  · subst h3
    go_enter Tryz.func42, Tryz.ntmps42
    go_wp2_with fail
    all_goals
      go_ret
      refine ⟨ret_bool ?_, below_allocS (Below.refl _ _) _⟩
      simp only [fldF, Int.reduceEq, if_true, if_false]
      simp_all
      try first
        | omega
        | (rw [Bool.eq_iff_iff]; simp <;> omega)
  go_enter Tryz.func42, Tryz.ntmps42
  go_wp2_with fail
  all_goals
    go_ret
    refine ⟨ret_bool ?_, below_allocS (Below.refl _ _) _⟩
    simp only [fldF, h0, h1, h2, h3, if_false]
    simp_all
theorem ar_cases (k : Int) : arF k = -1 ∨ arF k = 0 ∨ arF k = 1 ∨ arF k = 2 := by
  unfold arF
  repeat' split
  all_goals simp
theorem size_nil (x : ByteArray) (h : x.toList = []) : x.size = 0 := by
  rw [ByteArray.toList_eq] at h
  have := congrArg List.length h
  simpa using this
/-- What alone says. -/
def aloneF (t : Tm) : Bool := decide (0 ≤ arF t.kind) && (decide (2 ≤ arF t.kind) || decide (t.r = -1)) && (decide (1 ≤ arF t.kind) || decide (t.l = -1)) && fldF t
set_option maxRecDepth 100000 in
set_option maxHeartbeats 8000000 in
theorem alone_k0 (k : Int) (s : ByteArray) (n : Int) (x : ByteArray) (l r : Int) (w : World) (hk : k = 0) :
    Calls Tryz.prog 48 #[.agg #[.int .i64 k, .string s, .int .i64 n, .string x, .int .i64 l, .int .i64 r]] w fun e w' => e = .returned (.bool (aloneF ⟨k, s, n, x, l, r⟩)) ∧ Below w.heap.size w w' := by
  subst hk
  have CA := Lib.hid (fun W => arity_any 0 W)
  have CN := Lib.hid (fun W => rname_any s W)
  go_enter Tryz.func48, Tryz.ntmps48
  go_wp2_with fail
  refine (CA.out _).mono ?_
  rintro e w1 ⟨he, rfl⟩
  rw [show arF 0 = 0 from rfl] at he
  subst he
  go_wp2_with fail
  all_goals first
    | (go_ret
       refine ⟨ret_bool ?_, below_allocS (Below.refl _ _) _⟩
       simp only [aloneF, fldF, show arF 0 = 0 from rfl, if_true]
       simp_all
       done)
    | (refine (CN.out _).mono ?_
       rintro e w1 ⟨rfl, rfl⟩
       rcases hN : nameF s with _ | _
       all_goals
         have HN := Lib.hid hN
         clear hN
         go_wp2_with fail
         all_goals
           go_ret
           refine ⟨ret_bool ?_, below_allocS (Below.refl _ _) _⟩
           simp only [aloneF, fldF, HN.out, show arF 0 = 0 from rfl, if_true]
           try simp_all
           try (rw [Bool.eq_iff_iff]; simp; omega))
set_option maxRecDepth 100000 in
set_option maxHeartbeats 8000000 in
theorem alone_k1 (k : Int) (s : ByteArray) (n : Int) (x : ByteArray) (l r : Int) (w : World) (hk : k = 1) :
    Calls Tryz.prog 48 #[.agg #[.int .i64 k, .string s, .int .i64 n, .string x, .int .i64 l, .int .i64 r]] w fun e w' => e = .returned (.bool (aloneF ⟨k, s, n, x, l, r⟩)) ∧ Below w.heap.size w w' := by
  subst hk
  have CA := Lib.hid (fun W => arity_any 1 W)
  have CN := Lib.hid (fun W => rname_any s W)
  go_enter Tryz.func48, Tryz.ntmps48
  go_wp2_with fail
  refine (CA.out _).mono ?_
  rintro e w1 ⟨he, rfl⟩
  rw [show arF 1 = 0 from rfl] at he
  subst he
  go_wp2_with fail
  all_goals
    go_ret
    refine ⟨ret_bool ?_, below_allocS (Below.refl _ _) _⟩
    simp only [aloneF, fldF, show arF 1 = 0 from rfl, Int.reduceEq, if_true, if_false]
    try simp_all
    try (rw [Bool.eq_iff_iff]; simp; omega)
set_option maxRecDepth 100000 in
set_option maxHeartbeats 8000000 in
theorem alone_k2 (k : Int) (s : ByteArray) (n : Int) (x : ByteArray) (l r : Int) (w : World) (hk : k = 2) :
    Calls Tryz.prog 48 #[.agg #[.int .i64 k, .string s, .int .i64 n, .string x, .int .i64 l, .int .i64 r]] w fun e w' => e = .returned (.bool (aloneF ⟨k, s, n, x, l, r⟩)) ∧ Below w.heap.size w w' := by
  subst hk
  have CA := Lib.hid (fun W => arity_any 2 W)
  have CN := Lib.hid (fun W => rname_any s W)
  go_enter Tryz.func48, Tryz.ntmps48
  go_wp2_with fail
  refine (CA.out _).mono ?_
  rintro e w1 ⟨he, rfl⟩
  rw [show arF 2 = 0 from rfl] at he
  subst he
  go_wp2_with fail
  all_goals
    go_ret
    refine ⟨ret_bool ?_, below_allocS (Below.refl _ _) _⟩
    simp only [aloneF, fldF, show arF 2 = 0 from rfl, Int.reduceEq, if_true, if_false]
    try simp_all
    try (rw [Bool.eq_iff_iff]; simp; omega)
set_option maxRecDepth 100000 in
set_option maxHeartbeats 8000000 in
theorem alone_k3 (k : Int) (s : ByteArray) (n : Int) (x : ByteArray) (l r : Int) (w : World) (hk : k = 3) :
    Calls Tryz.prog 48 #[.agg #[.int .i64 k, .string s, .int .i64 n, .string x, .int .i64 l, .int .i64 r]] w fun e w' => e = .returned (.bool (aloneF ⟨k, s, n, x, l, r⟩)) ∧ Below w.heap.size w w' := by
  subst hk
  have CA := Lib.hid (fun W => arity_any 3 W)
  have CN := Lib.hid (fun W => rname_any s W)
  go_enter Tryz.func48, Tryz.ntmps48
  go_wp2_with fail
  refine (CA.out _).mono ?_
  rintro e w1 ⟨he, rfl⟩
  rw [show arF 3 = 0 from rfl] at he
  subst he
  go_wp2_with fail
  all_goals
    go_ret
    refine ⟨ret_bool ?_, below_allocS (Below.refl _ _) _⟩
    simp only [aloneF, fldF, show arF 3 = 0 from rfl, Int.reduceEq, if_true, if_false]
    have hz := size_nil x
    try simp_all
    try (rw [Bool.eq_iff_iff]; simp <;> omega)
    try (rw [show x.toList.isEmpty = false by simpa using ‹¬ x.toList = []›, Bool.false_or]; exact decide_eq_decide.2 (by omega))
set_option maxRecDepth 100000 in
set_option maxHeartbeats 8000000 in
theorem alone_more (k : Int) (s : ByteArray) (n : Int) (x : ByteArray) (l r : Int) (w : World) (h0 : k ≠ 0) (h1 : k ≠ 1) (h2 : k ≠ 2) (h3 : k ≠ 3) :
    Calls Tryz.prog 48 #[.agg #[.int .i64 k, .string s, .int .i64 n, .string x, .int .i64 l, .int .i64 r]] w fun e w' => e = .returned (.bool (aloneF ⟨k, s, n, x, l, r⟩)) ∧ Below w.heap.size w w' := by
  rcases ar_cases k with ha | ha | ha | ha
  all_goals
    have HA := Lib.hid ha
    have CA := Lib.hid (fun W => ha ▸ arity_any k W)
    clear ha
    go_enter Tryz.func48, Tryz.ntmps48
    go_wp2_with fail
    refine (CA.out _).mono ?_
    rintro e w1 ⟨rfl, rfl⟩
    go_wp2_with fail
    all_goals
      go_ret
      refine ⟨ret_bool ?_, below_allocS (Below.refl _ _) _⟩
      simp only [aloneF, fldF, HA.out, h0, h1, h2, h3, if_false]
      try simp_all
      try (rw [Bool.eq_iff_iff]; simp; omega)
set_option maxRecDepth 100000 in
set_option maxHeartbeats 8000000 in
theorem alone_any (k : Int) (s : ByteArray) (n : Int) (x : ByteArray) (l r : Int) (w : World) :
    Calls Tryz.prog 48 #[.agg #[.int .i64 k, .string s, .int .i64 n, .string x, .int .i64 l, .int .i64 r]] w fun e w' => e = .returned (.bool (aloneF ⟨k, s, n, x, l, r⟩)) ∧ Below w.heap.size w w' := by
  by_cases h0 : k = 0
  · exact alone_k0 k s n x l r w h0
  by_cases h1 : k = 1
  · exact alone_k1 k s n x l r w h1
  by_cases h2 : k = 2
  · exact alone_k2 k s n x l r w h2
  by_cases h3 : k = 3
  · exact alone_k3 k s n x l r w h3
  exact alone_more k s n x l r w h0 h1 h2 h3
end Go.Proofs.YtbemdcbglpjmiaaGreatDoor
