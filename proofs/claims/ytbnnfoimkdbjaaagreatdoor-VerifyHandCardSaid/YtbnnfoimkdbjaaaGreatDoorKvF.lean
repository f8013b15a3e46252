/- The fast evaluator: results. No program in sight. -/
import Derived.Test.YtbnnfoimkdbjaaaGreatDoorKvQ
namespace Go.Proofs.YtbnnfoimkdbjaaaGreatDoor
open Go.RowKit
namespace Kv
open Ev
set_option linter.unusedVariables false
def resSem (tmps : Array Value) : ResultVar → Sem Value
  | .tmp t => pure (tmps.getD t undef)
  | .cell a t => do loadVar t (← asAddr (tmps.getD a undef))
section
variable {Pr : Program} {w0 w : World} {m : M} {σ : St} {F : Fr} {a : Go.Act} {n : Nat} {tt : T TypeInfo}
theorem slot_ok (hF : FR m n F a) (t : Nat) : VR m ((opd (.tmp t)).f F) (a.tmps.getD t undef) := by
  show VR m (getP (path t) F) _
  rw [getP_path]
  exact hF.slot t
theorem res_ok (hT : Tab Pr tt) (hF : FR m n F a) (hH : HR w0 m σ w) {rv : ResultVar} {p : P} (h : (resOf tt rv).f F σ = some p) :
    ∃ v, (resSem a.tmps rv).run Pr w = .ok v w ∧ PR m p v := by
  cases rv with
  | tmp t => exact ⟨_, rfl, asP_ok h (slot_ok hF t)⟩
  | cell b t =>
    unfold resOf at h
    simp only at h
    split at h
    · rename_i k hg hs
      have h' : resA (opd (.tmp b)) k F σ = some p := h
      unfold resA at h'
      split at h'
      · rename_i c hc
        obtain ⟨b', o, q, hq, hx, _, hk⟩ := withPtr_ok h' (asC_ok hc (slot_ok hF b))
        rw [cellsAt_eq] at hk
        split at hk
        · rename_i l hl
          cases hk
          obtain ⟨vs, h1, h2⟩ := hH.loadCells (Pr := Pr) hl hq
          exact ⟨.agg vs.toArray, by simp only [resSem, hx, asAddr, loadVar, Sem.run_bind, Sem.run_pure, Result.andThen_ok, run_isAgg hT hg, run_size hT hs, if_true, h1], _, rfl, by simpa using h2⟩
        · cases hk
      · cases h'
    · rename_i _ hg
      have h' : resC (opd (.tmp b)) F σ = some p := h
      unfold resC at h'
      split at h'
      · rename_i c hc
        obtain ⟨b', o, q, hq, hx, _, hk⟩ := withPtr_ok h' (asC_ok hc (slot_ok hF b))
        split at hk
        · rename_i x hl
          cases hk
          obtain ⟨v, h1, h2⟩ := hH.load1 (Pr := Pr) (cellAt_ok hl) hq
          exact ⟨v, by simp only [resSem, hx, asAddr, loadVar, Sem.run_bind, Sem.run_pure, Result.andThen_ok, run_isAgg hT hg, Bool.false_eq_true, if_false, h1], h2⟩
        · cases hk
      · cases h'
    · cases h
theorem resL_ok (hT : Tab Pr tt) (hF : FR m n F a) (hH : HR w0 m σ w) : ∀ (l : List ResultVar) {ps : List P}, resL F σ (ress tt l) = some ps →
    ∃ vs, (l.mapM (resSem a.tmps)).run Pr w = .ok vs w ∧ All2 (PR m) ps vs
  | [], ps, h => by cases h; exact ⟨[], by simp, trivial⟩
  | r :: l, ps, h => by
    simp only [ress, resL] at h
    split at h
    · rename_i x hx
      split at h
      · rename_i q hq
        cases h
        obtain ⟨v, h1, h2⟩ := res_ok hT hF hH hx
        obtain ⟨vs, h3, h4⟩ := resL_ok hT hF hH l hq
        exact ⟨v :: vs, by simp [List.mapM_cons, h1, h3], h2, h4⟩
      · cases h
    · cases h
theorem results_eq (fn : Func) (tmps : Array Value) :
    results fn tmps = (fn.results.toList.mapM (resSem tmps) >>= fun vs => pure (if h : vs.toArray.size = 1 then vs.toArray[0] else .tuple vs.toArray)) := by
  have e : results fn tmps = (fn.results.mapM (resSem tmps) >>= fun vs => pure (if h : vs.size = 1 then vs[0] else .tuple vs)) := by
    unfold results
    refine congrArg (· >>= _) (congrArg (fun f => Array.mapM f fn.results) ?_)
    funext r; cases r <;> rfl
  rw [e, Array.mapM_eq_mapM_toList]
  simp
end
end Kv
end Go.Proofs.YtbnnfoimkdbjaaaGreatDoor
