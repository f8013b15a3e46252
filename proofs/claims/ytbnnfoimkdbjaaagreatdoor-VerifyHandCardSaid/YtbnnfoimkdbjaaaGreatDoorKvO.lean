/- The fast evaluator: its operations are the model's. No program in sight. -/
import Derived.Test.YtbnnfoimkdbjaaaGreatDoorKvL
import Derived.Test.YtbnnfoimkdbjaaaGreatDoorKvC
namespace Go.Proofs.YtbnnfoimkdbjaaaGreatDoor
open Go.RowKit
namespace Kv
open Ev
set_option linter.unusedVariables false

/-- The package-level variables lie under their own numbers. -/
abbrev Globs (m : M) : Prop := ∀ g, g < 63 → m g = some (g, 0)
/-- What the evaluator says of an operation, said of the model's. -/
def Good (Pr : Program) (w0 : World) (m : M) (σ : St) (w : World) (s : Sem Next) : R → Prop
  | .val v σ' => ∃ m' v' w', Gr m σ w m' σ' w' ∧ s.run Pr w = .ok (.value v') w' ∧ HR w0 m' σ' w' ∧ VR m' v v'
  | .skip σ' => ∃ m' w', Gr m σ w m' σ' w' ∧ s.run Pr w = .ok .skip w' ∧ HR w0 m' σ' w'
  | .call f args σ' => σ' = σ ∧ ∃ vs : Array Value, All2 (VR m) args vs.toList ∧ s.run Pr w = (callFunc f vs).run Pr w
/-- The same of a value that is computed. -/
def GoodV (Pr : Program) (w0 : World) (m : M) (σ : St) (w : World) (s : Sem Value) : R → Prop
  | .val v σ' => ∃ m' v' w', Gr m σ w m' σ' w' ∧ s.run Pr w = .ok v' w' ∧ HR w0 m' σ' w' ∧ VR m' v v'
  | _ => False
/-- Of one that leaves the world as it is. -/
def GoodP (Pr : Program) (m : M) (w : World) (s : Sem Value) (v : V) : Prop := ∃ v', s.run Pr w = .ok v' w ∧ VR m v v'
/-- Of one that makes a block. -/
def GoodA (Pr : Program) (m : M) (w : World) (s : Sem Value) (a : Al) : Prop := ∃ v' o k, s.run Pr w = .ok v' (w.alloc o) ∧
  ∀ (m' : M) x, Ext m m' → m' x = some (w.heap.size, k) → BR m' (w.heap.size, k) a.b (some o) ∧ CR m' (a.pt x) v'
/-- A frame. -/
structure FR (m : M) (n : Nat) (F : Fr) (a : Go.Act) : Prop where
  size : n ≤ a.tmps.size
  defers : a.defers = []
  slot : ∀ t, VR m ((F.get t).getD .undef) (a.tmps.getD t undef)
section
variable {Pr : Program} {w0 w : World} {m m' : M} {σ σ' : St} {F : Fr} {a : Go.Act} {n : Nat} {r : R} {v : V} {α : Type} {z : α}
theorem GoodV.good {s : Sem Value} (h : GoodV Pr w0 m σ w s r) : Good Pr w0 m σ w (do pure (.value (← s))) r := by
  cases r with
  | val v σ' =>
    obtain ⟨m', v', w', h1, h2, h3, h4⟩ := h
    exact ⟨m', v', w', h1, by simp [h2], h3, h4⟩
  | skip σ' => exact h.elim
  | call f l σ' => exact h.elim
theorem GoodV.same {s : Sem Value} {v : V} {v' : Value} (hH : HR w0 m σ w) (h : s.run Pr w = .ok v' w) (hv : VR m v v') : GoodV Pr w0 m σ w s (.val v σ) :=
  ⟨m, v', w, Gr.refl hH, h, hH, hv⟩
theorem asC_ok {v : V} {c : C} {x : Value} (h : asC v = some c) (hv : VR m v x) : CR m c x := by
  unfold asC at h
  split at h
  · split at h
    · cases h; exact hv
    · cases h
  all_goals cases h
theorem asP_ok {v : V} {c : P} {x : Value} (h : asP v = some c) (hv : VR m v x) : PR m c x := by
  unfold asP at h
  split at h
  · cases h; exact hv
  all_goals cases h
theorem opd_ok (hF : FR m n F a) (hG : Globs m) (x : Operand) : VR m ((opd x).f F) (a.eval x) := by
  cases x with
  | tmp t =>
    show VR m (getP (path t) F) _
    rw [getP_path]
    exact hF.slot t
  | const v =>
    show VR m (cst (ofV v) F) v
    unfold cst
    cases h : ofV v with
    | none => trivial
    | some x => exact ofV_ok m h
  | global g =>
    show VR m ((match Nat.ble g 62 with | true => (⟨glob g⟩ : Get) | false => ⟨anyV⟩).f F) _
    cases h : Nat.ble g 62 with
    | true =>
      have h1 : g < 63 := by have := Nat.le_of_ble_eq_true h; omega
      exact (show PA m (g, 0) _ from ⟨_, hG g h1, rfl⟩)
    | false => trivial
  | func f => exact ⟨#[], rfl, trivial⟩
theorem on1_ok {x : Operand} {k : C → Option α} (hF : FR m n F a) (hG : Globs m) (h : on1 (opd x) k F = some z) :
    ∃ c, CR m c (a.eval x) ∧ k c = some z := by
  unfold on1 at h
  split at h
  · rename_i c hc; exact ⟨c, asC_ok hc (opd_ok hF hG x), h⟩
  · cases h
theorem on2_ok {x y : Operand} {k : C → C → Option α} (hF : FR m n F a) (hG : Globs m) (h : on2 (opd x) (opd y) k F = some z) :
    ∃ c d, CR m c (a.eval x) ∧ CR m d (a.eval y) ∧ k c d = some z := by
  unfold on2 at h
  split at h
  · rename_i c hc
    split at h
    · rename_i d hd; exact ⟨c, d, asC_ok hc (opd_ok hF hG x), asC_ok hd (opd_ok hF hG y), h⟩
    · cases h
  · cases h
theorem onP_ok {x : Operand} {k : P → Option α} (hF : FR m n F a) (hG : Globs m) (h : onP (opd x) k F = some z) :
    ∃ c, PR m c (a.eval x) ∧ k c = some z := by
  unfold onP at h
  split at h
  · rename_i c hc; exact ⟨c, asP_ok hc (opd_ok hF hG x), h⟩
  · cases h
theorem onPP_ok {x y : Operand} {k : P → P → Option α} (hF : FR m n F a) (hG : Globs m) (h : onPP (opd x) (opd y) k F = some z) :
    ∃ c d, PR m c (a.eval x) ∧ PR m d (a.eval y) ∧ k c d = some z := by
  unfold onPP at h
  split at h
  · rename_i c hc
    split at h
    · rename_i d hd; exact ⟨c, d, asP_ok hc (opd_ok hF hG x), asP_ok hd (opd_ok hF hG y), h⟩
    · cases h
  · cases h
theorem onPC_ok {x y : Operand} {k : P → C → Option α} (hF : FR m n F a) (hG : Globs m) (h : onPC (opd x) (opd y) k F = some z) :
    ∃ c d, PR m c (a.eval x) ∧ CR m d (a.eval y) ∧ k c d = some z := by
  unfold onPC at h
  split at h
  · rename_i c hc
    split at h
    · rename_i d hd; exact ⟨c, d, asP_ok hc (opd_ok hF hG x), asC_ok hd (opd_ok hF hG y), h⟩
    · cases h
  · cases h
theorem on1S_ok {x : Operand} {k : C → St → Option α} (hF : FR m n F a) (hG : Globs m) (h : on1S (opd x) k F σ = some z) :
    ∃ c, CR m c (a.eval x) ∧ k c σ = some z := by
  unfold on1S at h
  split at h
  · rename_i c hc; exact ⟨c, asC_ok hc (opd_ok hF hG x), h⟩
  · cases h
theorem on2S_ok {x y : Operand} {k : C → C → St → Option α} (hF : FR m n F a) (hG : Globs m) (h : on2S (opd x) (opd y) k F σ = some z) :
    ∃ c d, CR m c (a.eval x) ∧ CR m d (a.eval y) ∧ k c d σ = some z := by
  unfold on2S at h
  split at h
  · rename_i c hc
    split at h
    · rename_i d hd; exact ⟨c, d, asC_ok hc (opd_ok hF hG x), asC_ok hd (opd_ok hF hG y), h⟩
    · cases h
  · cases h
theorem onCPS_ok {x y : Operand} {k : C → P → St → Option α} (hF : FR m n F a) (hG : Globs m) (h : onCPS (opd x) (opd y) k F σ = some z) :
    ∃ c d, CR m c (a.eval x) ∧ PR m d (a.eval y) ∧ k c d σ = some z := by
  unfold onCPS at h
  split at h
  · rename_i c hc
    split at h
    · rename_i d hd; exact ⟨c, d, asC_ok hc (opd_ok hF hG x), asP_ok hd (opd_ok hF hG y), h⟩
    · cases h
  · cases h
theorem onCPPS_ok {x y y' : Operand} {k : C → P → P → St → Option α} (hF : FR m n F a) (hG : Globs m) (h : onCPPS (opd x) (opd y) (opd y') k F σ = some z) :
    ∃ c d e, CR m c (a.eval x) ∧ PR m d (a.eval y) ∧ PR m e (a.eval y') ∧ k c d e σ = some z := by
  unfold onCPPS at h
  split at h
  · rename_i c hc
    split at h
    · rename_i d hd
      split at h
      · rename_i e he; exact ⟨c, d, e, asC_ok hc (opd_ok hF hG x), asP_ok hd (opd_ok hF hG y), asP_ok he (opd_ok hF hG y'), h⟩
      · cases h
    · cases h
  · cases h
theorem vC_some {c : C} (h : vC c = some v) : v = .p (.c c) := by cases h; rfl
theorem rC_some {c : C} (h : rC σ c = some r) : r = .val (.p (.c c)) σ := by cases h; rfl
theorem withPtr_ok {c : C} {x : Value} {k : Nat → Nat → Option α} {y : α} (h : withPtr c k = some y) (hc : CR m c x) :
    ∃ b o q, m b = some q ∧ x = .pointer (some ⟨q.1, o, none⟩) ∧ c = .ptr (some (b, o)) ∧ k b o = some y := by
  unfold withPtr at h
  split at h
  · split at h
    · rename_i b
      obtain ⟨q, h1, h2⟩ := hc
      exact ⟨_, _, q, h1, h2, rfl, h⟩
    · cases h
  · cases h
theorem cellsAt_eq (b o n : Nat) : cellsAt σ b o n = σ.cells b o n := by
  unfold cellsAt withRow St.cells
  obtain ⟨h, nx⟩ := σ
  simp only [get_eq, take_eq]
  cases h.get b with
  | none => rfl
  | some x => cases x with
    | row t k cs u =>
      simp only [Nat.add_eq]
      cases hb : Nat.ble (o + n) k with
      | true => simp [Nat.le_of_ble_eq_true hb]
      | false =>
        have : ¬ o + n ≤ k := fun hle => by rw [Nat.ble_eq_true_of_le hle] at hb; cases hb
        simp [this]
    | _ => rfl
theorem loadA_ok {t : Nat} {sz : Nat} {tt : T TypeInfo} (hT : Tab Pr tt) {x : Operand} (hF : FR m n F a) (hH : HR w0 m σ w) (hg : Ev.isAgg tt t = some true) (hs : size tt t = some sz)
    (h : on1S (opd x) (loadA sz) F σ = some v) : GoodP Pr m w (Instr.loadAt t (a.eval x)) v := by
  obtain ⟨c, hc, hk⟩ := on1S_ok hF hH.glob h
  obtain ⟨b, o, q, hq, hx, _, hk⟩ := withPtr_ok hk hc
  rw [cellsAt_eq] at hk
  split at hk
  · rename_i l hl
    cases hk
    obtain ⟨vs, h1, h2⟩ := hH.loadCells (Pr := Pr) hl hq
    exact ⟨.agg vs.toArray, by simp [hx, Instr.loadAt, Instr.sureAddr, loadVar, run_isAgg hT hg, run_size hT hs, h1], _, rfl, by simpa using h2⟩
  · cases hk
theorem cellAt_ok {b o : Nat} {x : C} (h : cellAt σ b o = some x) : σ.cells b o 1 = some [x] := by
  unfold cellAt withRow at h
  unfold St.cells
  obtain ⟨hp, nx⟩ := σ
  simp only [get_eq] at h ⊢
  cases hb : hp.get b with
  | none => rw [hb] at h; cases h
  | some y =>
    rw [hb] at h
    cases y with
    | row t k cs u =>
      simp only at h ⊢
      split at h
      · rename_i hle
        have := Nat.le_of_ble_eq_true hle
        rw [if_pos (by simpa using this), T.take, h]
        simp [T.take]
      · cases h
    | _ => cases h
theorem loadC_ok {t : Nat} {tt : T TypeInfo} (hT : Tab Pr tt) {x : Operand} (hF : FR m n F a) (hH : HR w0 m σ w) (hg : Ev.isAgg tt t = some false)
    (h : on1S (opd x) loadC F σ = some v) : GoodP Pr m w (Instr.loadAt t (a.eval x)) v := by
  obtain ⟨c, hc, hk⟩ := on1S_ok hF hH.glob h
  obtain ⟨b, o, q, hq, hx, _, hk⟩ := withPtr_ok hk hc
  split at hk
  · rename_i l hl
    cases hk
    obtain ⟨v, h1, h2⟩ := hH.load1 (Pr := Pr) (cellAt_ok hl) hq
    exact ⟨v, by simp only [hx, Instr.loadAt, Instr.sureAddr, loadVar, Sem.run_bind, Sem.run_pure, Result.andThen_ok, run_isAgg hT hg, Bool.false_eq_true, if_false, h1], h2⟩
  · cases hk
theorem putCells_ok {b o : Nat} {l : List C} (h : putCells σ b o l = some σ') : σ.put b o l = some σ' := by
  unfold putCells withRow putB at h
  unfold St.put
  obtain ⟨hp, nx⟩ := σ
  simp only [get_eq, put_eq, fill_eq] at h ⊢
  cases hb : hp.get b with
  | none => rw [hb] at h; cases h
  | some y =>
    rw [hb] at h
    cases y with
    | row t k cs u =>
      simp only at h ⊢
      split at h
      · rename_i hle
        have := Nat.le_of_ble_eq_true hle
        split at h
        · rename_i h64
          have h64 := Nat.le_of_ble_eq_true h64
          rw [if_pos ⟨h64, by simpa using this⟩]
          exact h
        · cases h
      · cases h
    | _ => cases h
theorem storeP_ok {t sz : Nat} {tt : T TypeInfo} (hT : Tab Pr tt) {x y : Operand} (hF : FR m n F a) (hH : HR w0 m σ w) (hs : size tt t = some sz)
    (h : onCPS (opd x) (opd y) (storeP sz) F σ = some r) : Good Pr w0 m σ w (do Instr.storeAt t (a.eval x) (a.eval y); pure .skip) r := by
  obtain ⟨c, d, hc, hd, hk⟩ := onCPS_ok hF hH.glob h
  obtain ⟨b, o, q, hq, hx, _, hk⟩ := withPtr_ok hk hc
  split at hk
  · rename_i hlen
    have hlen := Nat.eq_of_beq_eq_true hlen
    split at hk
    · rename_i σ' hp
      cases hk
      have hcs := hd.cells
      obtain ⟨w', h1, h2, h3⟩ := hH.put (Pr := Pr) (putCells_ok hp) hq hcs
      have hsz : (a.eval y).cells.size = sz := by rw [← hlen, hcs.length]; simp
      exact ⟨m, w', h3, by simp [hx, Instr.storeAt, Instr.sureAddr, storeVar, run_size hT hs, hsz, h1], h2⟩
    · cases hk
  · cases hk
theorem addOff_ok {t f ft off k : Nat} {tt : T TypeInfo} (hT : Tab Pr tt) {x : Operand} (hF : FR m n F a) (hG : Globs m) (hf : fieldOff tt t f = some (ft, off))
    (hs : size tt ft = some (k + 1)) (h : on1 (opd x) (addOff off) F = some v) : GoodP Pr m w (Instr.fieldAt t (a.eval x) f) v := by
  obtain ⟨c, hc, hk⟩ := on1_ok hF hG h
  obtain ⟨b, o, q, hq, hx, _, hk⟩ := withPtr_ok hk hc
  obtain rfl := vC_some hk
  unfold fieldOff at hf
  split at hf
  · rename_i fs hu
    split at hf
    · rename_i g hg
      cases hf
      exact ⟨.pointer (some ⟨q.1, o + g.offset, none⟩),
        by simp [hx, Instr.fieldAt, Instr.sureAddr, run_under hT hu, hg, fieldPlace, run_size hT hs, add_eq], q, hq, rfl⟩
    · cases hf
  · cases hf
theorem sl_ok {b o len cap : Nat} {kn : Bool} {v : Value} (h : CR m (.sl b o len kn cap) v) : ∃ q c', m b = some q ∧ v = .slice (some ⟨q.1, o, none⟩) len c' := by
  cases kn with
  | true => obtain ⟨q, h1, h2⟩ := h; exact ⟨q, _, h1, h2⟩
  | false => obtain ⟨q, h1, _, h2⟩ := h; exact ⟨q, _, h1, h2⟩
theorem natOf_ok {c : C} {x : Value} {k : Nat → Option α} {y : α} (h : natOf c k = some y) (hc : CR m c x) :
    ∃ kd n, x = .int kd (n : Nat) ∧ k n = some y := by
  unfold natOf at h
  split at h
  · split at h
    · exact ⟨_, _, hc, h⟩
    · cases h
  · cases h
theorem ixSl_ok {t e sz : Nat} {tt : T TypeInfo} (hT : Tab Pr tt) {x y : Operand} (hF : FR m n F a) (hG : Globs m) (hu : under tt t = some (.slice e)) (hs : size tt e = some sz)
    (h : on2 (opd x) (opd y) (ixSl sz) F = some v) : GoodP Pr m w (Instr.indexAt t (a.eval x) (a.eval y)) v := by
  obtain ⟨c, d, hc, hd, hk⟩ := on2_ok hF hG h
  obtain ⟨kd, i, hy, hk⟩ := natOf_ok hk hd
  split at hk
  · rename_i b o len kn cap _
    obtain ⟨q, c', hq, hx⟩ := sl_ok hc
    split at hk
    · rename_i hlt
      have hlt := Nat.le_of_ble_eq_true hlt
      obtain rfl := vC_some hk
      refine ⟨.pointer (some ⟨q.1, o + i * sz, none⟩), ?_, q, hq, rfl⟩
      have h2 : (0 : Int) ≤ (i : Int) ∧ (i : Int) < (len : Int) := ⟨by omega, by omega⟩
      simp only [hx, hy, Instr.indexAt, asIntOf, Sem.run_bind, Sem.run_pure, Result.andThen_ok, run_under hT hu, if_pos h2, run_size hT hs, add_eq, Int.toNat_natCast]
    · cases hk
  · cases hk
theorem ixArr_ok {t e len sz : Nat} {tt : T TypeInfo} (hT : Tab Pr tt) {x y : Operand} (hF : FR m n F a) (hG : Globs m) (hu : under tt t = some (.array len e)) (hs : size tt e = some sz)
    (h : on2 (opd x) (opd y) (ixArr len sz) F = some v) : GoodP Pr m w (Instr.indexAt t (a.eval x) (a.eval y)) v := by
  obtain ⟨c, d, hc, hd, hk⟩ := on2_ok hF hG h
  obtain ⟨kd, i, hy, hk⟩ := natOf_ok hk hd
  obtain ⟨b, o, q, hq, hx, _, hk⟩ := withPtr_ok hk hc
  split at hk
  · rename_i hlt
    have hlt := Nat.le_of_ble_eq_true hlt
    obtain rfl := vC_some hk
    refine ⟨.pointer (some ⟨q.1, o + i * sz, none⟩), ?_, q, hq, rfl⟩
    have h2 : (0 : Int) ≤ (i : Int) ∧ (i : Int) < (len : Int) := ⟨by omega, by omega⟩
    simp only [hx, hy, Instr.indexAt, Instr.sureAddr, asIntOf, Sem.run_bind, Sem.run_pure, Result.andThen_ok, run_under hT hu, if_pos h2, run_size hT hs, add_eq, Int.toNat_natCast]
  · cases hk
/-- A new row. -/
theorem row_ok {t : Nat} {l : List C} {vs : Array Value} {r : Nat × Nat} (hl : All2 (CR m) l vs.toList) : BR m r (rowOf t l) (some (.cells vs t)) := by
  have hlen := hl.length
  unfold rowOf
  rw [fill_eq]
  refine ⟨vs, _, (0, 0), rfl, by simp, by rw [hlen]; simp, fun j c hj hc => ?_, by rw [hlen]; simp⟩
  rw [T.get_fill, T.get_nil] at hc
  split at hc
  · rename_i hin
    obtain ⟨v, h1, h2⟩ := hl.get hc
    exact ⟨v, by simpa using h1, h2⟩
  · cases hc
theorem box_ok {t : Nat} {x : Operand} {z : Al} (hF : FR m n F a) (hG : Globs m) (h : onP (opd x) (boxP t) F = some z) : GoodA Pr m w (Instr.box t (a.eval x)) z := by
  obtain ⟨c, hc, hk⟩ := onP_ok hF hG h
  cases hk
  exact ⟨.pointer (some ⟨w.heap.size, 0, none⟩), .cells (a.eval x).cells t, 0, by simp [Instr.box, newVar, Go.newRow, newObj, Sem.run], fun m' x e hx => ⟨row_ok (hc.ext e).cells, _, hx, rfl⟩⟩
theorem alloc_ok {t : Nat} {tt : T TypeInfo} {y : P} {z : Al} (hT : Tab Pr tt) (hy : zero tt t = some y) (h : allocP t y F = some z) :
    GoodA Pr m w (Instr.alloc t true (.tuple #[])) z := by
  obtain ⟨v, h1, h2⟩ := run_zero hT (w := w) m hy
  cases h
  exact ⟨.pointer (some ⟨w.heap.size, 0, none⟩), .cells v.cells t, 0, by simp [Instr.alloc, h1, newVar, Go.newRow, newObj, Sem.run], fun m' x e hx => ⟨row_ok (h2.ext e).cells, _, hx, rfl⟩⟩
theorem newMap_ok {t : TypeId} {z : Al} (h : newMap F = some z) : GoodA Pr m w (Instr.makeMap t none) z := by
  cases h
  exact ⟨.map (some w.heap.size), .map #[] 0, 0, by simp [Instr.makeMap, newObj, Sem.run], fun m' x e hx => ⟨⟨#[], rfl, by simp, trivial⟩, _, hx, rfl⟩⟩
end
end Kv
end Go.Proofs.YtbnnfoimkdbjaaaGreatDoor
