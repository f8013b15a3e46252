/- The fast evaluator: moves and other small operations. No program in sight. -/
import Derived.Test.YtbnnfoimkdbjaaaGreatDoorKvS
namespace Go.Proofs.YtbnnfoimkdbjaaaGreatDoor
open Go.RowKit
namespace Kv
open Ev
set_option linter.unusedVariables false
section
variable {Pr : Program} {w0 w : World} {m : M} {F : Fr} {a : Go.Act} {n : Nat} {v : V} {t : TypeId} {x y z : Operand}
theorem mv_ok (hF : FR m n F a) (hG : Globs m) (h : mv (opd x) F = some v) : VR m v (a.eval x) := by
  cases h
  exact opd_ok hF hG x
theorem pick_ok (hF : FR m n F a) (hG : Globs m) (h : pick (opd x) (opd y) (opd z) F = some v) :
    ∃ v', (do pure (.value (if ← asBool (a.eval x) then a.eval y else a.eval z)) : Sem Next).run Pr w = .ok (.value v') w ∧ VR m v v' := by
  unfold pick at h
  split at h
  · rename_i b hb
    have hx : a.eval x = .bool b := asC_ok hb (opd_ok hF hG x)
    split at h
    · cases h
      exact ⟨a.eval y, by simp [hx, asBool], opd_ok hF hG y⟩
    · cases h
      exact ⟨a.eval z, by simp [hx, asBool], opd_ok hF hG z⟩
  · cases h
theorem nthL_eq {α : Type} : ∀ (l : List α) (i : Nat), nthL l i = l[i]?
  | [], i => by cases i <;> rfl
  | a :: l, 0 => rfl
  | a :: l, i + 1 => by rw [nthL, nthL_eq l i, List.getElem?_cons_succ]
theorem extr_ok {i : Nat} (hF : FR m n F a) (hG : Globs m) (h : extr (opd x) i F = some v) : GoodP Pr m w (Instr.extract (a.eval x) i) v := by
  unfold extr at h
  have hx := opd_ok hF hG x
  split at h
  · rename_i l hl
    rw [hl] at hx
    obtain ⟨vs, hv, h2⟩ := hx
    rw [nthL_eq] at h
    split at h
    · rename_i p hp
      cases h
      obtain ⟨u, h3, h4⟩ := h2.get hp
      exact ⟨u, by simp [hv, Instr.extract, show vs[i]? = some u by simpa using h3], h4⟩
    · cases h
  · cases h
theorem uNot_ok (hF : FR m n F a) (hG : Globs m) (h : on1 (opd x) uNot F = some v) : GoodP Pr m w (Op.unary .not (a.eval x)) v := by
  obtain ⟨c, hc, hk⟩ := on1_ok hF hG h
  unfold uNot at hk
  split at hk
  · rename_i b
    obtain rfl := vC_some hk
    have hx : a.eval x = .bool b := hc
    exact ⟨.bool (!b), by simp [hx, Op.unary], by rw [bNot_eq]; rfl⟩
  · cases hk
theorem uNeg_ok (hF : FR m n F a) (hG : Globs m) (h : on1 (opd x) uNeg F = some v) : GoodP Pr m w (Op.unary .neg (a.eval x)) v := by
  obtain ⟨c, hc, hk⟩ := on1_ok hF hG h
  unfold uNeg at hk
  split at hk
  · rename_i k i
    obtain rfl := vC_some hk
    have hx : a.eval x = .int k i := hc
    exact ⟨.int k (k.wrap (0 - i)), by simp [hx, Op.unary, Op.intArith], by rw [wrapQ_eq]; rfl⟩
  · cases hk
theorem nonNil_ok (hF : FR m n F a) (hG : Globs m) {o : Oper} (ho : o.op = .nilCheck x) (h : on1 (opd x) nonNil F = some v) :
    ∃ v', (execOp a.eval o).run Pr w = .ok (.value v') w ∧ VR m v v' := by
  obtain ⟨c, hc, hk⟩ := on1_ok hF hG h
  unfold nonNil at hk
  split at hk
  · rename_i p
    obtain rfl := vC_some hk
    obtain ⟨q, hq, hx⟩ := id hc
    exact ⟨a.eval x, by simp [execOp, ho, hx], hc⟩
  · rename_i f cap
    obtain rfl := vC_some hk
    obtain ⟨vs, hx, hv⟩ := id hc
    exact ⟨a.eval x, by simp [execOp, ho, hx], hc⟩
  · cases hk
theorem conInt_ok {s d : TypeId} {k : IntKind} {ds : TypeDesc} {tt : T TypeInfo} (hT : Tab Pr tt) (hF : FR m n F a) (hG : Globs m) (hs : under tt s = some ds) (hd : under tt d = some (.int k))
    (h : on1 (opd x) (conInt k) F = some v) : GoodP Pr m w (Go.convert s d (a.eval x)) v := by
  obtain ⟨c, hc, hk⟩ := on1_ok hF hG h
  unfold conInt at hk
  split at hk
  · rename_i k' i
    obtain rfl := vC_some hk
    have hx : a.eval x = .int k' i := hc
    exact ⟨.int k (k.wrap i), by simp [hx, Go.convert, run_under hT hs, run_under hT hd, Conv.intToInt], by rw [wrapQ_eq]; rfl⟩
  · cases hk
theorem conStr_ok {s d : TypeId} {tt : T TypeInfo} (hT : Tab Pr tt) (hF : FR m n F a) (hG : Globs m) (hs : under tt s = some .string) (hd : under tt d = some .string)
    (h : on1 (opd x) conStr F = some v) : GoodP Pr m w (Go.convert s d (a.eval x)) v := by
  obtain ⟨c, hc, hk⟩ := on1_ok hF hG h
  unfold conStr at hk
  split at hk
  · obtain rfl := vC_some hk
    obtain ⟨q, hx, hq⟩ := id hc
    exact ⟨.string q, by simp [hx, Go.convert, run_under hT hs, run_under hT hd], q, rfl, hq⟩
  · cases hk
theorem lenStr_ok {tt : T TypeInfo} (hT : Tab Pr tt) (hF : FR m n F a) (hG : Globs m) (hs : under tt t = some .string) {ty : TypeId}
    (h : on1 (opd x) lenStr F = some v) : GoodP Pr m w (Builtin.len_ #[t] ty #[a.eval x]) v := by
  obtain ⟨c, hc, hk⟩ := on1_ok hF hG h
  unfold lenStr at hk
  split at hk
  · obtain rfl := vC_some hk
    obtain ⟨q, hx, rfl⟩ := id hc
    exact ⟨goInt q.size, by simp [hx, Builtin.len_, run_under hT hs], by rw [bytes_length]; rfl⟩
  · cases hk
theorem lenSl_ok {tt : T TypeInfo} (hT : Tab Pr tt) (hF : FR m n F a) (hG : Globs m) {e ty : TypeId} (hs : under tt t = some (.slice e))
    (h : on1 (opd x) lenSl F = some v) : GoodP Pr m w (Builtin.len_ #[t] ty #[a.eval x]) v := by
  obtain ⟨c, hc, hk⟩ := on1_ok hF hG h
  unfold lenSl at hk
  split at hk
  · obtain rfl := vC_some hk
    have hx : a.eval x = .slice none 0 0 := hc
    exact ⟨goInt 0, by simp [hx, Builtin.len_, run_under hT hs], rfl⟩
  · obtain rfl := vC_some hk
    obtain ⟨q, c', hq, hx⟩ := sl_ok hc
    exact ⟨goInt _, by simp [hx, Builtin.len_, run_under hT hs], rfl⟩
  · obtain rfl := vC_some hk
    obtain ⟨b, c', hx⟩ := hc
    exact ⟨goInt 0, by simp [hx, Builtin.len_, run_under hT hs], rfl⟩
  · cases hk
theorem ixStr_ok {tt : T TypeInfo} (hT : Tab Pr tt) (hF : FR m n F a) (hG : Globs m) (hs : under tt t = some .string)
    (h : on2 (opd x) (opd y) ixStr F = some v) : GoodP Pr m w (Instr.index t (a.eval x) (a.eval y)) v := by
  obtain ⟨c, d, hc, hd, hk⟩ := on2_ok hF hG h
  obtain ⟨kd, i, hy, hk⟩ := natOf_ok hk hd
  split at hk
  · rename_i s
    obtain ⟨q, hx, hq⟩ := id hc
    split at hk
    · rename_i b l hl
      obtain rfl := vC_some hk
      subst hq
      have h1 : (Ev.bytes q)[i]? = some b := by
        have := congrArg List.head? hl
        simpa using this
      obtain ⟨u, hu1, hu2⟩ : ∃ u : UInt8, q[i]? = some u ∧ u.toNat = b := by
        simp only [Ev.bytes, List.getElem?_map, Option.map_eq_some_iff] at h1
        obtain ⟨u, h2, h3⟩ := h1
        refine ⟨u, ?_, h3⟩
        rw [Array.getElem?_toList] at h2
        obtain ⟨hlt, h4⟩ := Array.getElem?_eq_some_iff.1 h2
        have hlt' : i < q.size := hlt
        rw [getElem?_pos q i hlt']
        exact congrArg some h4
      exact ⟨.int .u8 (u.toNat : Int), by simp [hx, hy, Instr.index, asIntOf, run_under hT hs, hu1], by subst hu2; rfl⟩
    · cases hk
  · cases hk
end
end Kv
end Go.Proofs.YtbnnfoimkdbjaaaGreatDoor
