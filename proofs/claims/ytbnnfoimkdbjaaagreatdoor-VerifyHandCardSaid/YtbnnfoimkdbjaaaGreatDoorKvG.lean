/- The fast evaluator: functions. No program in sight. -/
import Derived.Test.YtbnnfoimkdbjaaaGreatDoorKvF
namespace Go.Proofs.YtbnnfoimkdbjaaaGreatDoor
open Go.RowKit
namespace Kv
open Ev
set_option linter.unusedVariables false
section
variable {Pr : Program} {w0 w : World} {m : M} {σ σ' : St} {tt : T TypeInfo} {fl : T (List TypeDesc)} {call : CallT}
theorem back_ok {F : Fr} {a : Go.Act} {n : Nat} {v : V} (hT : Tab Pr tt) (hF : FR m n F a) (hH : HR w0 m σ w) (fn : Func) (h : back (ress tt fn.results.toList) F σ = some (v, σ')) :
    σ' = σ ∧ ∃ v', (results fn a.tmps).run Pr w = .ok v' w ∧ VR m v v' := by
  rw [results_eq]
  unfold back at h
  split at h
  · rename_i r hr
    split at h
    · rename_i x hx
      cases h
      have : resL F σ (ress tt fn.results.toList) = some [x] := by rw [hr]; simp [resL, hx]
      obtain ⟨vs, h1, h2⟩ := resL_ok hT hF hH _ this
      match vs, h2 with
      | [u], ⟨h3, _⟩ => exact ⟨rfl, u, by simp [h1], h3⟩
    · cases h
  · rename_i hr
    split at h
    · rename_i q hq
      cases h
      obtain ⟨vs, h1, h2⟩ := resL_ok hT hF hH _ hq
      have hne : vs.length ≠ 1 := by
        intro h1
        have hl := h2.length
        match hl2 : fn.results.toList, q, hq with
        | [r], q, hq => rw [hl2] at hr; exact hr _ rfl
        | [], q, hq => cases hq; simp at hl; omega
        | r :: r' :: l, q, hq =>
          simp only [ress, resL] at hq
          split at hq
          · split at hq
            · cases hq
              rename_i q' hq'
              split at hq'
              · split at hq'
                · cases hq'; simp at hl; omega
                · cases hq'
              · cases hq'
            · cases hq
          · cases hq
      exact ⟨rfl, .tuple vs.toArray, by simp [h1, hne], vs.toArray, rfl, by simpa using h2⟩
    · cases h
theorem enter_ok {args : List V} {vs : Array Value} (k : Nat) (hv : All2 (VR m) args vs.toList) :
    FR m k (fill args .nil 0) { tmps := vs ++ Array.replicate (k - vs.size) undef, defers := [] } := by
  refine ⟨by simp; omega, rfl, fun t => ?_⟩
  rw [fill_eq, T.get_fill, T.get_nil]
  have hlen := hv.length
  simp only [Array.length_toList] at hlen
  by_cases h : t < args.length
  · rw [if_pos (by omega)]
    obtain ⟨v, h1, h2⟩ := hv.get (List.getElem?_eq_getElem h)
    rw [Nat.sub_zero, List.getElem?_eq_getElem h]
    have h3 : (vs ++ Array.replicate (k - vs.size) undef).getD t undef = v := by
      rw [Array.getD_eq_getD_getElem?, Array.getElem?_append_left (by omega)]
      rw [Array.getElem?_toList] at h1
      rw [h1]; rfl
    rw [h3]; exact h2
  · rw [if_neg (by omega)]
    show _ = undef
    rw [Array.getD_eq_getD_getElem?, Array.getElem?_append_right (by omega), Array.getElem?_replicate]
    split <;> rfl
theorem func_ok {f : FuncId} {fn : Func} {c : Code} {args : List V} {v : V} {vs : Array Value} (hT : Tab Pr tt) (hmix : Pr.follows .mixedOrders = true) (hact : ActOk Pr w0 tt fl) (hcall : CallOk Pr w0 call)
    (hf : Pr.funcs[f]? = some fn) (hb : fn.body = some c) (hco : codeOk tt fl c = true) (hH : HR w0 m σ w) (hv : All2 (VR m) args vs.toList) (h : (func tt fl fn).f call args σ = some (v, σ')) :
    Calls Pr f vs w fun e w' => ∃ m' v', e = .returned v' ∧ Gr m σ w m' σ' w' ∧ HR w0 m' σ' w' ∧ VR m' v v' := by
  refine calls_of_wp hf hb ?_
  unfold func at h
  rw [hb] at h
  have h : bodyR (code tt fl fn.ntmps c) (ress tt fn.results.toList) call (fill args .nil 0) σ = some (v, σ') := h
  unfold bodyR at h
  split at h
  · rename_i x hx
    refine code_ok hmix hact hcall c hco (enter_ok fn.ntmps hv) hH hx fun m' a' w' e hF hH' => ?_
    have key : back (ress tt fn.results.toList) x.2.1 x.2.2 = some (v, σ') → (x.1 = .normal ∨ x.1 = .ret) → bodyPost Pr fn (fun e w' => ∃ m' v', e = .returned v' ∧ Gr m σ w m' σ' w' ∧ HR w0 m' σ' w' ∧ VR m' v v') (exitOf x.1) a' w' := by
      intro hbk hx1
      obtain ⟨rfl, v', h1, h2⟩ := back_ok hT hF hH' fn hbk
      rcases hx1 with hx1 | hx1 <;> rw [hx1] <;> exact ⟨hF.defers, v', h1, m', v', rfl, e, hH', h2⟩
    split at h
    · cases h
    · rename_i hn
      refine key h ?_
      cases hx1 : x.1 with
      | normal => exact .inl rfl
      | ret => exact .inr rfl
      | exit i => exact absurd hx1 (hn i)
  · cases h
theorem eval_ok {ff : T Func} {prim : Nat → Option Fun} (hT : Tab Pr tt) (hmix : Pr.follows .mixedOrders = true) (hact : ActOk Pr w0 tt fl)
    (hff : ∀ f fn, get ff f = some fn → Pr.funcs[f]? = some fn ∧ (fn.name == "runtime.NumGoroutine") = false ∧ ∀ c, fn.body = some c → codeOk tt fl c = true)
    (hprim : ∀ call, CallOk Pr w0 call → CallOk Pr w0 fun f args σ => match prim f with | some x => x.f call args σ | none => none) :
    ∀ n, CallOk Pr w0 (eval tt fl ff prim n)
  | 0 => fun f args σ v σ' m w vs h => by cases h
  | n + 1 => by
    have ih := eval_ok hT hmix hact hff hprim n
    intro f args σ v σ' m w vs h hH hv
    have h : callK tt fl ff prim (eval tt fl ff prim n) f args σ = some (v, σ') := h
    unfold callK at h
    split at h
    · rename_i x hx
      exact hprim _ ih f args σ v σ' m w vs (by simp only [hx]; exact h) hH hv
    · split at h
      · rename_i fn hfn
        obtain ⟨h1, h2, h4⟩ := hff f fn hfn
        cases hb : fn.body with
        | none => unfold func at h; rw [hb] at h; cases h
        | some c => exact .inr ⟨by have h3 : ¬ fn.name = "runtime.NumGoroutine" := by simpa using h2
                                   simp [callFunc, h1, h3, hb], func_ok hT hmix hact ih h1 hb (h4 c hb) hH hv h⟩
      · cases h
end
end Kv
end Go.Proofs.YtbnnfoimkdbjaaaGreatDoor
