/- The fast evaluator: strings. No program in sight. -/
import Derived.Test.YtbnnfoimkdbjaaaGreatDoorKvI
namespace Go.Proofs.YtbnnfoimkdbjaaaGreatDoor
open Go.RowKit
namespace Kv
open Ev
set_option linter.unusedVariables false

theorem strEq_nil (t : List Nat) : strEq [] t = t.isEmpty := by cases t <;> rfl
theorem strEq_cons (x y : Nat) (s t : List Nat) : strEq (x :: s) (y :: t) = (Nat.beq x y && strEq s t) := by
  have h : strEq (x :: s) (y :: t) = Bool.rec (motive := fun _ => Bool) false (strEq s t) (Nat.beq x y) := rfl
  rw [h]; cases Nat.beq x y <;> rfl
theorem strEq_eq : ∀ (s t : List Nat), strEq s t = decide (s = t)
  | [], t => by rw [strEq_nil]; cases t <;> simp
  | x :: s, [] => by simp only [reduceCtorEq, decide_false]; rfl
  | x :: s, y :: t => by
    rw [strEq_cons, strEq_eq s t, Bool.eq_iff_iff]
    simp
theorem strLt_cons (x y : Nat) (s t : List Nat) : strLt (x :: s) (y :: t) = (Nat.ble (x + 1) y || (Nat.beq x y && strLt s t)) := by
  have h : strLt (x :: s) (y :: t) = Bool.rec (motive := fun _ => Bool) (Nat.ble (x + 1) y) (strLt s t) (Nat.beq x y) := rfl
  rw [h]
  cases hb : Nat.beq x y with
  | false => simp
  | true =>
    have := Nat.eq_of_beq_eq_true hb
    subst this
    have : Nat.ble (x + 1) x = false := by
      cases h : Nat.ble (x + 1) x with
      | false => rfl
      | true => have := Nat.le_of_ble_eq_true h; omega
    rw [this]; simp
theorem strLt_eq : ∀ (x y : List UInt8), strLt (x.map UInt8.toNat) (y.map UInt8.toNat) = Op.bytesLess x y
  | [], [] => rfl
  | [], b :: y => rfl
  | a :: x, [] => rfl
  | a :: x, b :: y => by
    rw [List.map_cons, List.map_cons, strLt_cons, strLt_eq x y, Op.bytesLess]
    have h1 : Nat.ble (a.toNat + 1) b.toNat = decide (a < b) := by
      rw [Bool.eq_iff_iff, Nat.ble_eq, decide_eq_true_iff, UInt8.lt_iff_toNat_lt]
      omega
    have h2 : Nat.beq a.toNat b.toNat = (a == b) := by
      rw [Bool.eq_iff_iff, Nat.beq_eq, beq_iff_eq, UInt8.toNat_inj]
    rw [h1, h2]
theorem bytes_eq_iff {s t : ByteArray} : Ev.bytes s = Ev.bytes t ↔ s = t := ⟨bytes_inj, fun h => by rw [h]⟩
theorem toList_beq' (s t : ByteArray) : (s.toList == t.toList) = strEq (Ev.bytes s) (Ev.bytes t) := by
  rw [strEq_eq, toList_beq, Bool.eq_iff_iff]
  simp [bytes_eq_iff]
theorem less_eq (s t : ByteArray) : Op.bytesLess s.toList t.toList = strLt (Ev.bytes s) (Ev.bytes t) := by
  rw [ByteArray.toList_eq, ByteArray.toList_eq, Ev.bytes, Ev.bytes, strLt_eq]
section
variable {Pr : Program} {w0 w : World} {m : M} {F : Fr} {a : Go.Act} {n : Nat} {v : V} {op : BinOp} {t : TypeId} {x y : Operand}
theorem withStr_ok {c : C} {u : Value} {k : List Nat → Option V} (h : withStr c k = some v) (hc : CR m c u) : ∃ s, u = .string s ∧ k (Ev.bytes s) = some v := by
  unfold withStr at h
  split at h
  · obtain ⟨s, h1, h2⟩ := hc; exact ⟨s, h1, by rw [h2]; exact h⟩
  · cases h
theorem guard_str (s s' : ByteArray) : (eqGuard op t x y (.string s) (.string s')).run Pr w = .ok () w := by
  unfold eqGuard
  cases op <;> simp
theorem strOp_ok {f : List Nat → List Nat → C} (hF : FR m n F a) (hG : Globs m)
    (hf : ∀ s s', ∃ v, (Go.binOp op t (.string s) (.string s')).run Pr w = .ok v w ∧ CR m (f (Ev.bytes s) (Ev.bytes s')) v)
    (h : on2 (opd x) (opd y) (strOp f) F = some v) : GoodP Pr m w (do eqGuard op t x y (a.eval x) (a.eval y); Go.binOp op t (a.eval x) (a.eval y)) v := by
  obtain ⟨c, d, hc, hd, hk⟩ := on2_ok hF hG h
  obtain ⟨s, hx, hk⟩ := withStr_ok hk hc
  obtain ⟨s', hy, hk⟩ := withStr_ok hk hd
  obtain rfl := vC_some hk
  obtain ⟨u, h1, h2⟩ := hf s s'
  exact ⟨u, by rw [hx, hy, Sem.run_bind, guard_str]; exact h1, h2⟩
theorem seq_ok (s s' : ByteArray) : ∃ v, (Go.binOp .eql t (.string s) (.string s')).run Pr w = .ok v w ∧ CR m (sEq (Ev.bytes s) (Ev.bytes s')) v :=
  ⟨.bool (strEq (Ev.bytes s) (Ev.bytes s')), by simp only [Go.binOp, Op.stringOp, toList_beq', Sem.run_pure], rfl⟩
theorem sne_ok (s s' : ByteArray) : ∃ v, (Go.binOp .neq t (.string s) (.string s')).run Pr w = .ok v w ∧ CR m (sNe (Ev.bytes s) (Ev.bytes s')) v :=
  ⟨.bool (!strEq (Ev.bytes s) (Ev.bytes s')), by simp only [Go.binOp, Op.stringOp, toList_beq', Sem.run_pure], by simp only [sNe, bNot_eq]; rfl⟩
theorem slt_ok (s s' : ByteArray) : ∃ v, (Go.binOp .lss t (.string s) (.string s')).run Pr w = .ok v w ∧ CR m (sLt (Ev.bytes s) (Ev.bytes s')) v :=
  ⟨.bool (strLt (Ev.bytes s) (Ev.bytes s')), by simp only [Go.binOp, Op.stringOp, less_eq, Sem.run_pure], rfl⟩
theorem sle_ok (s s' : ByteArray) : ∃ v, (Go.binOp .leq t (.string s) (.string s')).run Pr w = .ok v w ∧ CR m (sLe (Ev.bytes s) (Ev.bytes s')) v :=
  ⟨.bool (strLt (Ev.bytes s) (Ev.bytes s') || strEq (Ev.bytes s) (Ev.bytes s')), by simp only [Go.binOp, Op.stringOp, less_eq, toList_beq', Sem.run_pure], rfl⟩
theorem sgt_ok (s s' : ByteArray) : ∃ v, (Go.binOp .gtr t (.string s) (.string s')).run Pr w = .ok v w ∧ CR m (sGt (Ev.bytes s) (Ev.bytes s')) v :=
  ⟨.bool (!(strLt (Ev.bytes s) (Ev.bytes s') || strEq (Ev.bytes s) (Ev.bytes s'))), by simp only [Go.binOp, Op.stringOp, less_eq, toList_beq', Sem.run_pure], by simp only [sGt, bNot_eq]; rfl⟩
theorem sge_ok (s s' : ByteArray) : ∃ v, (Go.binOp .geq t (.string s) (.string s')).run Pr w = .ok v w ∧ CR m (sGe (Ev.bytes s) (Ev.bytes s')) v :=
  ⟨.bool (!strLt (Ev.bytes s) (Ev.bytes s')), by simp only [Go.binOp, Op.stringOp, less_eq, Sem.run_pure], by simp only [sGe, bNot_eq]; rfl⟩
theorem bytes_append (s t : ByteArray) : Ev.bytes (s ++ t) = Ev.bytes s ++ Ev.bytes t := by
  simp [Ev.bytes, ByteArray.data_append]
theorem sAdd_ok (hF : FR m n F a) (hG : Globs m) (h : on2 (opd x) (opd y) sAdd F = some v) :
    GoodP Pr m w (do eqGuard .add t x y (a.eval x) (a.eval y); Go.binOp .add t (a.eval x) (a.eval y)) v := by
  obtain ⟨c, d, hc, hd, hk⟩ := on2_ok hF hG h
  obtain ⟨s, hx, hk⟩ := withStr_ok hk hc
  obtain ⟨s', hy, hk⟩ := withStr_ok hk hd
  split at hk
  · rename_i hle
    obtain rfl := vC_some hk
    have hle := Nat.le_of_ble_eq_true hle
    simp only [bytes_length, Nat.add_eq] at hle
    refine ⟨.string (s ++ s'), ?_, s ++ s', rfl, bytes_append s s'⟩
    have h1 : ¬ (((s.size + s'.size : Nat) : Int) > IntKind.i64.max) := by
      have : IntKind.i64.max = 9223372036854775807 := by decide
      omega
    rw [hx, hy, Sem.run_bind, guard_str]
    simp only [Go.binOp, Op.stringOp, Result.andThen_ok, if_neg h1, Sem.run_pure]
  · cases hk
end
end Kv
end Go.Proofs.YtbnnfoimkdbjaaaGreatDoor
