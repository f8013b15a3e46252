/- The fast evaluator: integers. No program in sight. -/
import Derived.Test.YtbnnfoimkdbjaaaGreatDoorKvO
namespace Go.Proofs.YtbnnfoimkdbjaaaGreatDoor
open Go.RowKit
namespace Kv
open Ev
set_option linter.unusedVariables false

theorem wrapQ_eq (k : IntKind) (n : Int) : wrapQ k n = k.wrap n := by
  cases n with
  | ofNat m =>
    unfold wrapQ
    simp only
    cases h : Nat.ble m 127 with
    | true =>
      have h := Nat.le_of_ble_eq_true h
      simp only
      cases k <;> simp [IntKind.wrap, IntKind.bits, IntKind.signed] <;> omega
    | false => rfl
  | negSucc m => rfl
theorem kNum_inj {k k' : IntKind} (h : Nat.beq (kNum k) (kNum k') = true) : k = k' := by
  cases k <;> cases k' <;> first | rfl | (simp [kNum] at h)
theorem leI_eq (a b : Int) : leI a b = decide (a ≤ b) := by
  rw [Bool.eq_iff_iff, decide_eq_true_iff]
  cases a <;> cases b <;> simp only [leI]
  · rw [Nat.ble_eq]; simp only [Int.ofNat_eq_natCast]; omega
  · constructor <;> intro h <;> first | trivial | rfl | (cases h; done) | (simp only [Int.ofNat_eq_natCast] at h; omega) | (simp only [Int.ofNat_eq_natCast]; omega) | (cases h)
  · constructor <;> intro h <;> first | trivial | rfl | (cases h; done) | (simp only [Int.ofNat_eq_natCast] at h; omega) | (simp only [Int.ofNat_eq_natCast]; omega) | (cases h)
  · rw [Nat.ble_eq]; omega
theorem eqI_eq (a b : Int) : eqI a b = decide (a = b) := by
  rw [Bool.eq_iff_iff, decide_eq_true_iff]
  cases a <;> cases b <;> simp only [eqI]
  · rw [Nat.beq_eq]; simp only [Int.ofNat_eq_natCast]; omega
  · constructor <;> intro h <;> first | trivial | rfl | (cases h; done) | (simp only [Int.ofNat_eq_natCast] at h; omega) | (simp only [Int.ofNat_eq_natCast]; omega) | (cases h)
  · constructor <;> intro h <;> first | trivial | rfl | (cases h; done) | (simp only [Int.ofNat_eq_natCast] at h; omega) | (simp only [Int.ofNat_eq_natCast]; omega) | (cases h)
  · rw [Nat.beq_eq]; omega
theorem bNot_eq (b : Bool) : bNot b = !b := by cases b <;> rfl
section
variable {Pr : Program} {w0 w : World} {m : M} {F : Fr} {a : Go.Act} {n : Nat} {v : V} {op : BinOp} {t : TypeId} {x y : Operand}
theorem withInt_ok {c : C} {u : Value} {k : IntKind → Int → Option V} (h : withInt c k = some v) (hc : CR m c u) : ∃ kd i, u = .int kd i ∧ k kd i = some v := by
  unfold withInt at h
  split at h
  · exact ⟨_, _, hc, h⟩
  · cases h
theorem guard_int (k k' : IntKind) (i j : Int) : (eqGuard op t x y (.int k i) (.int k' j)).run Pr w = .ok () w := by
  unfold eqGuard
  cases op <;> simp
theorem intOp_ok {f : IntKind → Int → Int → C} (hF : FR m n F a) (hG : Globs m)
    (hf : ∀ k i j, ∃ v, (Go.binOp op t (.int k i) (.int k j)).run Pr w = .ok v w ∧ CR m (f k i j) v)
    (h : on2 (opd x) (opd y) (intOp f) F = some v) : GoodP Pr m w (do eqGuard op t x y (a.eval x) (a.eval y); Go.binOp op t (a.eval x) (a.eval y)) v := by
  obtain ⟨c, d, hc, hd, hk⟩ := on2_ok hF hG h
  obtain ⟨k, i, hx, hk⟩ := withInt_ok hk hc
  obtain ⟨k', j, hy, hk⟩ := withInt_ok hk hd
  split at hk
  · rename_i hkk
    obtain rfl := kNum_inj hkk
    obtain rfl := vC_some hk
    obtain ⟨u, h1, h2⟩ := hf k i j
    exact ⟨u, by rw [hx, hy, Sem.run_bind, guard_int]; exact h1, h2⟩
  · cases hk
theorem intOpZ_ok {f : IntKind → Int → Int → C} (hF : FR m n F a) (hG : Globs m)
    (hf : ∀ k i j, j ≠ 0 → ∃ v, (Go.binOp op t (.int k i) (.int k j)).run Pr w = .ok v w ∧ CR m (f k i j) v)
    (h : on2 (opd x) (opd y) (intOpZ f) F = some v) : GoodP Pr m w (do eqGuard op t x y (a.eval x) (a.eval y); Go.binOp op t (a.eval x) (a.eval y)) v := by
  obtain ⟨c, d, hc, hd, hk⟩ := on2_ok hF hG h
  obtain ⟨k, i, hx, hk⟩ := withInt_ok hk hc
  obtain ⟨k', j, hy, hk⟩ := withInt_ok hk hd
  split at hk
  · rename_i hkk
    obtain rfl := kNum_inj hkk
    split at hk
    · cases hk
    · rename_i hj
      obtain rfl := vC_some hk
      obtain ⟨u, h1, h2⟩ := hf k i j hj
      exact ⟨u, by rw [hx, hy, Sem.run_bind, guard_int]; exact h1, h2⟩
  · cases hk
theorem add_ok (k : IntKind) (i j : Int) : ∃ v, (Go.binOp .add t (.int k i) (.int k j)).run Pr w = .ok v w ∧ CR m (iAdd k i j) v :=
  ⟨_, by simp [Go.binOp, Op.intArith]; rfl, by simp only [iAdd, wrapQ_eq]; rfl⟩
theorem sub_ok (k : IntKind) (i j : Int) : ∃ v, (Go.binOp .sub t (.int k i) (.int k j)).run Pr w = .ok v w ∧ CR m (iSub k i j) v :=
  ⟨_, by simp [Go.binOp, Op.intArith]; rfl, by simp only [iSub, wrapQ_eq]; rfl⟩
theorem mul_ok (k : IntKind) (i j : Int) : ∃ v, (Go.binOp .mul t (.int k i) (.int k j)).run Pr w = .ok v w ∧ CR m (iMul k i j) v :=
  ⟨_, by simp [Go.binOp, Op.intArith]; rfl, by simp only [iMul, wrapQ_eq]; rfl⟩
theorem eq_ok (k : IntKind) (i j : Int) : ∃ v, (Go.binOp .eql t (.int k i) (.int k j)).run Pr w = .ok v w ∧ CR m (iEq k i j) v :=
  ⟨.bool (i == j), by simp [Go.binOp, Op.intCmp], by simp only [iEq, eqI_eq]; rfl⟩
theorem ne_ok (k : IntKind) (i j : Int) : ∃ v, (Go.binOp .neq t (.int k i) (.int k j)).run Pr w = .ok v w ∧ CR m (iNe k i j) v :=
  ⟨.bool (i != j), by simp [Go.binOp, Op.intCmp], by simp only [iNe, eqI_eq, bNot_eq]; rfl⟩
theorem lt_ok (k : IntKind) (i j : Int) : ∃ v, (Go.binOp .lss t (.int k i) (.int k j)).run Pr w = .ok v w ∧ CR m (iLt k i j) v :=
  ⟨.bool (decide (i < j)), by simp [Go.binOp, Op.intCmp], by
    have e : decide (i < j) = !decide (j ≤ i) := by rw [Bool.eq_iff_iff]; simp
    simp only [iLt, leI_eq, bNot_eq, e]; rfl⟩
theorem le_ok (k : IntKind) (i j : Int) : ∃ v, (Go.binOp .leq t (.int k i) (.int k j)).run Pr w = .ok v w ∧ CR m (iLe k i j) v :=
  ⟨.bool (decide (i ≤ j)), by simp [Go.binOp, Op.intCmp], by simp only [iLe, leI_eq]; rfl⟩
theorem gt_ok (k : IntKind) (i j : Int) : ∃ v, (Go.binOp .gtr t (.int k i) (.int k j)).run Pr w = .ok v w ∧ CR m (iGt k i j) v :=
  ⟨.bool (decide (i > j)), by simp [Go.binOp, Op.intCmp], by
    have e : decide (i > j) = !decide (i ≤ j) := by rw [Bool.eq_iff_iff]; simp
    rw [e]; simp only [iGt, leI_eq, bNot_eq]; rfl⟩
theorem ge_ok (k : IntKind) (i j : Int) : ∃ v, (Go.binOp .geq t (.int k i) (.int k j)).run Pr w = .ok v w ∧ CR m (iGe k i j) v :=
  ⟨.bool (decide (i ≥ j)), by simp [Go.binOp, Op.intCmp], by simp only [iGe, leI_eq]; rfl⟩
theorem quo_ok (k : IntKind) (i j : Int) (hj : j ≠ 0) : ∃ v, (Go.binOp .quo t (.int k i) (.int k j)).run Pr w = .ok v w ∧ CR m (iQuo k i j) v :=
  ⟨.int k (k.wrap (i.tdiv j)), by simp [Go.binOp, Op.intDiv, hj], by simp only [iQuo, wrapQ_eq]; rfl⟩
theorem rem_ok (k : IntKind) (i j : Int) (hj : j ≠ 0) : ∃ v, (Go.binOp .rem t (.int k i) (.int k j)).run Pr w = .ok v w ∧ CR m (iRem k i j) v :=
  ⟨.int k (i.tmod j), by simp [Go.binOp, Op.intDiv, hj], rfl⟩
theorem and_ok (k : IntKind) (i j : Int) : ∃ v, (Go.binOp .and t (.int k i) (.int k j)).run Pr w = .ok v w ∧ CR m (iBits (fun _ a b => a &&& b) k i j) v :=
  ⟨_, by simp [Go.binOp, Op.intBits]; rfl, by simp [iBits]; rfl⟩
theorem or_ok (k : IntKind) (i j : Int) : ∃ v, (Go.binOp .or t (.int k i) (.int k j)).run Pr w = .ok v w ∧ CR m (iBits (fun _ a b => a ||| b) k i j) v :=
  ⟨_, by simp [Go.binOp, Op.intBits]; rfl, by simp [iBits]; rfl⟩
theorem xor_ok (k : IntKind) (i j : Int) : ∃ v, (Go.binOp .xor t (.int k i) (.int k j)).run Pr w = .ok v w ∧ CR m (iBits (fun _ a b => a ^^^ b) k i j) v :=
  ⟨_, by simp [Go.binOp, Op.intBits]; rfl, by simp [iBits]; rfl⟩
theorem shOp_ok {f : IntKind → Int → Nat → C} (hF : FR m n F a) (hG : Globs m) (hop : (op matches .eql | .neq) = false)
    (hf : ∀ k k' i (j : Nat), ∃ v, (Go.binOp op t (.int k i) (.int k' (j : Int))).run Pr w = .ok v w ∧ CR m (f k i (min j k.bits)) v)
    (h : on2 (opd x) (opd y) (shOp f) F = some v) : GoodP Pr m w (do eqGuard op t x y (a.eval x) (a.eval y); Go.binOp op t (a.eval x) (a.eval y)) v := by
  obtain ⟨c, d, hc, hd, hk⟩ := on2_ok hF hG h
  obtain ⟨k, i, hx, hk⟩ := withInt_ok hk hc
  obtain ⟨k', j, hy, hk⟩ := withInt_ok hk hd
  split at hk
  · rename_i j
    obtain rfl := vC_some hk
    obtain ⟨u, h1, h2⟩ := hf k k' i j
    exact ⟨u, by rw [hx, hy, Sem.run_bind, guard_int]; exact h1, h2⟩
  · cases hk
theorem shl_ok (k k' : IntKind) (i : Int) (j : Nat) : ∃ v, (Go.binOp .shl t (.int k i) (.int k' (j : Int))).run Pr w = .ok v w ∧ CR m (iShl k i (min j k.bits)) v :=
  ⟨.int k (k.wrap (i * 2 ^ (min j k.bits))), by simp [Go.binOp, Op.shift, show ¬ ((j : Int) < 0) by omega], by
    simp only [iShl, wrapQ_eq, Int.ofNat_eq_natCast, Nat.pow_eq, Int.natCast_pow]; rfl⟩
theorem shr_ok (k k' : IntKind) (i : Int) (j : Nat) : ∃ v, (Go.binOp .shr t (.int k i) (.int k' (j : Int))).run Pr w = .ok v w ∧ CR m (iShr k i (min j k.bits)) v :=
  ⟨.int k (i.fdiv (2 ^ (min j k.bits))), by simp [Go.binOp, Op.shift, show ¬ ((j : Int) < 0) by omega], by
    simp only [iShr, Int.ofNat_eq_natCast, Nat.pow_eq, Int.natCast_pow]; rfl⟩
theorem min2_ok (k : IntKind) (i j : Int) : ∃ v, (Builtin.min2 (.int k i) (.int k j)).run Pr w = .ok v w ∧ CR m (minI k i j) v :=
  ⟨.int k (if j < i then j else i), by simp [Builtin.min2], by
    unfold minI
    rw [leI_eq]
    by_cases h : j < i
    · rw [if_pos h, decide_eq_false (by omega)]; rfl
    · rw [if_neg h, decide_eq_true (by omega)]; rfl⟩
theorem max2_ok (k : IntKind) (i j : Int) : ∃ v, (Builtin.max2 (.int k i) (.int k j)).run Pr w = .ok v w ∧ CR m (maxI k i j) v :=
  ⟨.int k (if j > i then j else i), by simp [Builtin.max2], by
    unfold maxI
    rw [leI_eq]
    by_cases h : j > i
    · rw [if_pos h, decide_eq_false (by omega)]; rfl
    · rw [if_neg h, decide_eq_true (by omega)]; rfl⟩
theorem minmax_ok {f : IntKind → Int → Int → C} {g : Value → Value → Sem Value} (hF : FR m n F a) (hG : Globs m)
    (hf : ∀ k i j, ∃ v, (g (.int k i) (.int k j)).run Pr w = .ok v w ∧ CR m (f k i j) v)
    (h : on2 (opd x) (opd y) (intOp f) F = some v) : GoodP Pr m w (g (a.eval x) (a.eval y)) v := by
  obtain ⟨c, d, hc, hd, hk⟩ := on2_ok hF hG h
  obtain ⟨k, i, hx, hk⟩ := withInt_ok hk hc
  obtain ⟨k', j, hy, hk⟩ := withInt_ok hk hd
  split at hk
  · rename_i hkk
    obtain rfl := kNum_inj hkk
    obtain rfl := vC_some hk
    obtain ⟨u, h1, h2⟩ := hf k i j
    exact ⟨u, by rw [hx, hy]; exact h1, h2⟩
  · cases hk
end
end Kv
end Go.Proofs.YtbnnfoimkdbjaaaGreatDoor
