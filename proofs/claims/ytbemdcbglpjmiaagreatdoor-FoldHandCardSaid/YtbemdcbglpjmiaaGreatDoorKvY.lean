/- The fast evaluator: results. No program in sight. The fast evaluator: functions. No program in sight. The fast evaluator: calls whose outcome is known from a run of their own. No program in sight. -/
import Derived.Test.YtbemdcbglpjmiaaGreatDoorKvQ
namespace Go.Proofs.YtbemdcbglpjmiaaGreatDoor
open Go.RowKit
namespace Kv
open Ev
set_option linter.unusedVariables false
def resSem (tmps : Array Value) : ResultVar → Sem Value
  | .tmp t => pure (tmps.getD t undef)
  | .cell a t => do loadVar t (← asAddr (tmps.getD a undef))
section
variable {Pr : Program} {w0 w : World} {m : M} {σ : St} {F : Fr} {a : Go.Act} {n : Nat} {tt : T TypeInfo}
theorem slot_ok (hF : FR m n F a) (t : Nat) : VR m ((opd (.tmp t)).f F) (a.tmps.getD t undef) := by
  show VR m (getP (path t) F) _
  rw [getP_path]
  exact hF.slot t
theorem res_ok (hT : Tab Pr tt) (hF : FR m n F a) (hH : HR w0 m σ w) {rv : ResultVar} {p : P} (h : (resOf tt rv).f F σ = some p) :
    ∃ v, (resSem a.tmps rv).run Pr w = .ok v w ∧ PR m p v := by
  cases rv with
  | tmp t => exact ⟨_, rfl, asP_ok h (slot_ok hF t)⟩
  | cell b t =>
    unfold resOf at h
    simp only at h
    split at h
    · rename_i k hg hs
      have h' : resA (opd (.tmp b)) k F σ = some p := h
      unfold resA at h'
      split at h'
      · rename_i c hc
        obtain ⟨b', o, q, hq, hx, _, hk⟩ := withPtr_ok h' (asC_ok hc (slot_ok hF b))
        rw [cellsAt_eq] at hk
        split at hk
        · rename_i l hl
          cases hk
          obtain ⟨vs, h1, h2⟩ := hH.loadCells (Pr := Pr) hl hq
          exact ⟨.agg vs.toArray, by simp only [resSem, hx, asAddr, loadVar, Sem.run_bind, Sem.run_pure, Result.andThen_ok, run_isAgg hT hg, run_size hT hs, if_true, h1], _, rfl, by simpa using h2⟩
        · cases hk
      · cases h'
    · rename_i _ hg
      have h' : resC (opd (.tmp b)) F σ = some p := h
      unfold resC at h'
      split at h'
      · rename_i c hc
        obtain ⟨b', o, q, hq, hx, _, hk⟩ := withPtr_ok h' (asC_ok hc (slot_ok hF b))
        split at hk
        · rename_i x hl
          cases hk
          obtain ⟨v, h1, h2⟩ := hH.load1 (Pr := Pr) (cellAt_ok hl) hq
          exact ⟨v, by simp only [resSem, hx, asAddr, loadVar, Sem.run_bind, Sem.run_pure, Result.andThen_ok, run_isAgg hT hg, Bool.false_eq_true, if_false, h1], h2⟩
        · cases hk
      · cases h'
    · cases h
theorem resL_ok (hT : Tab Pr tt) (hF : FR m n F a) (hH : HR w0 m σ w) : ∀ (l : List ResultVar) {ps : List P}, resL F σ (ress tt l) = some ps →
    ∃ vs, (l.mapM (resSem a.tmps)).run Pr w = .ok vs w ∧ All2 (PR m) ps vs
  | [], ps, h => by cases h; exact ⟨[], by simp, trivial⟩
  | r :: l, ps, h => by
    simp only [ress, resL] at h
    split at h
    · rename_i x hx
      split at h
      · rename_i q hq
        cases h
        obtain ⟨v, h1, h2⟩ := res_ok hT hF hH hx
        obtain ⟨vs, h3, h4⟩ := resL_ok hT hF hH l hq
        exact ⟨v :: vs, by simp [List.mapM_cons, h1, h3], h2, h4⟩
      · cases h
    · cases h
theorem results_eq (fn : Func) (tmps : Array Value) :
    results fn tmps = (fn.results.toList.mapM (resSem tmps) >>= fun vs => pure (if h : vs.toArray.size = 1 then vs.toArray[0] else .tuple vs.toArray)) := by
  have e : results fn tmps = (fn.results.mapM (resSem tmps) >>= fun vs => pure (if h : vs.size = 1 then vs[0] else .tuple vs)) := by
    unfold results
    refine congrArg (· >>= _) (congrArg (fun f => Array.mapM f fn.results) ?_)
    funext r; cases r <;> rfl
  rw [e, Array.mapM_eq_mapM_toList]
  simp
end
end Kv
end Go.Proofs.YtbemdcbglpjmiaaGreatDoor
namespace Go.Proofs.YtbemdcbglpjmiaaGreatDoor
open Go.RowKit
namespace Kv
open Ev
set_option linter.unusedVariables false
section
variable {Pr : Program} {w0 w : World} {m : M} {σ σ' : St} {tt : T TypeInfo} {fl : T (List TypeDesc)} {call : CallT}
theorem back_ok {F : Fr} {a : Go.Act} {n : Nat} {v : V} (hT : Tab Pr tt) (hF : FR m n F a) (hH : HR w0 m σ w) (fn : Func) (h : back (ress tt fn.results.toList) F σ = some (v, σ')) :
    σ' = σ ∧ ∃ v', (results fn a.tmps).run Pr w = .ok v' w ∧ VR m v v' := by
  rw [results_eq]
  unfold back at h
  split at h
  · rename_i r hr
    split at h
    · rename_i x hx
      cases h
      have : resL F σ (ress tt fn.results.toList) = some [x] := by rw [hr]; simp [resL, hx]
      obtain ⟨vs, h1, h2⟩ := resL_ok hT hF hH _ this
      match vs, h2 with
      | [u], ⟨h3, _⟩ => exact ⟨rfl, u, by simp [h1], h3⟩
    · cases h
  · rename_i hr
    split at h
    · rename_i q hq
      cases h
      obtain ⟨vs, h1, h2⟩ := resL_ok hT hF hH _ hq
      have hne : vs.length ≠ 1 := by
        intro h1
        have hl := h2.length
        match hl2 : fn.results.toList, q, hq with
        | [r], q, hq => rw [hl2] at hr; exact hr _ rfl
        | [], q, hq => cases hq; simp at hl; omega
        | r :: r' :: l, q, hq =>
          simp only [ress, resL] at hq
          split at hq
          · split at hq
            · cases hq
              rename_i q' hq'
              split at hq'
              · split at hq'
                · cases hq'; simp at hl; omega
                · cases hq'
              · cases hq'
            · cases hq
          · cases hq
      exact ⟨rfl, .tuple vs.toArray, by simp [h1, hne], vs.toArray, rfl, by simpa using h2⟩
    · cases h
theorem enter_ok {args : List V} {vs : Array Value} (k : Nat) (hv : All2 (VR m) args vs.toList) :
    FR m k (fill args .nil 0) { tmps := vs ++ Array.replicate (k - vs.size) undef, defers := [] } := by
  refine ⟨by simp; omega, rfl, fun t => ?_⟩
  rw [fill_eq, T.get_fill, T.get_nil]
  have hlen := hv.length
  simp only [Array.length_toList] at hlen
  by_cases h : t < args.length
  · rw [if_pos (by omega)]
    obtain ⟨v, h1, h2⟩ := hv.get (List.getElem?_eq_getElem h)
    rw [Nat.sub_zero, List.getElem?_eq_getElem h]
    have h3 : (vs ++ Array.replicate (k - vs.size) undef).getD t undef = v := by
      rw [Array.getD_eq_getD_getElem?, Array.getElem?_append_left (by omega)]
      rw [Array.getElem?_toList] at h1
      rw [h1]; rfl
    rw [h3]; exact h2
  · rw [if_neg (by omega)]
    show _ = undef
    rw [Array.getD_eq_getD_getElem?, Array.getElem?_append_right (by omega), Array.getElem?_replicate]
    split <;> rfl
theorem func_ok {f : FuncId} {fn : Func} {c : Code} {args : List V} {v : V} {vs : Array Value} (hT : Tab Pr tt) (hmix : Pr.follows .mixedOrders = true) (hact : ActOk Pr w0 tt fl) (hcall : CallOk Pr w0 call)
    (hf : Pr.funcs[f]? = some fn) (hb : fn.body = some c) (hco : codeOk tt fl c = true) (hH : HR w0 m σ w) (hv : All2 (VR m) args vs.toList) (h : (func tt fl fn).f call args σ = some (v, σ')) :
    Calls Pr f vs w fun e w' => ∃ m' v', e = .returned v' ∧ Gr m σ w m' σ' w' ∧ HR w0 m' σ' w' ∧ VR m' v v' := by
  refine calls_of_wp hf hb ?_
  unfold func at h
  rw [hb] at h
  have h : bodyR (code tt fl fn.ntmps c) (ress tt fn.results.toList) call (fill args .nil 0) σ = some (v, σ') := h
  unfold bodyR at h
  split at h
  · rename_i x hx
    refine code_ok hmix hact hcall c hco (enter_ok fn.ntmps hv) hH hx fun m' a' w' e hF hH' => ?_
    have key : back (ress tt fn.results.toList) x.2.1 x.2.2 = some (v, σ') → (x.1 = .normal ∨ x.1 = .ret) → bodyPost Pr fn (fun e w' => ∃ m' v', e = .returned v' ∧ Gr m σ w m' σ' w' ∧ HR w0 m' σ' w' ∧ VR m' v v') (exitOf x.1) a' w' := by
      intro hbk hx1
      obtain ⟨rfl, v', h1, h2⟩ := back_ok hT hF hH' fn hbk
      rcases hx1 with hx1 | hx1 <;> rw [hx1] <;> exact ⟨hF.defers, v', h1, m', v', rfl, e, hH', h2⟩
    split at h
    · cases h
    · rename_i hn
      refine key h ?_
      cases hx1 : x.1 with
      | normal => exact .inl rfl
      | ret => exact .inr rfl
      | exit i => exact absurd hx1 (hn i)
  · cases h
theorem eval_ok {ff : T Func} {prim : Nat → Option Fun} (hT : Tab Pr tt) (hmix : Pr.follows .mixedOrders = true) (hact : ActOk Pr w0 tt fl)
    (hff : ∀ f fn, get ff f = some fn → Pr.funcs[f]? = some fn ∧ (fn.name == "runtime.NumGoroutine") = false ∧ ∀ c, fn.body = some c → codeOk tt fl c = true)
    (hprim : ∀ call, CallOk Pr w0 call → CallOk Pr w0 fun f args σ => match prim f with | some x => x.f call args σ | none => none) :
    ∀ n, CallOk Pr w0 (eval tt fl ff prim n)
  | 0 => fun f args σ v σ' m w vs h => by cases h
  | n + 1 => by
    have ih := eval_ok hT hmix hact hff hprim n
    intro f args σ v σ' m w vs h hH hv
    have h : callK tt fl ff prim (eval tt fl ff prim n) f args σ = some (v, σ') := h
    unfold callK at h
    split at h
    · rename_i x hx
      exact hprim _ ih f args σ v σ' m w vs (by simp only [hx]; exact h) hH hv
    · split at h
      · rename_i fn hfn
        obtain ⟨h1, h2, h4⟩ := hff f fn hfn
        cases hb : fn.body with
        | none => unfold func at h; rw [hb] at h; cases h
        | some c => exact .inr ⟨by have h3 : ¬ fn.name = "runtime.NumGoroutine" := by simpa using h2
                                   simp [callFunc, h1, h3, hb], func_ok hT hmix hact ih h1 hb (h4 c hb) hH hv h⟩
      · cases h
end
end Kv
end Go.Proofs.YtbemdcbglpjmiaaGreatDoor
namespace Go.Proofs.YtbemdcbglpjmiaaGreatDoor
open Go.RowKit
namespace Kv
open Ev
set_option linter.unusedVariables false
set_option linter.unusedSimpArgs false
/-- A block, spelt out. -/
inductive LB
  | row (t : Nat) (u : Option Nat) (l : List C)
  | map (es : List Ent) (clk : Nat)
noncomputable def LB.toB : LB → B
  | .row t u l => .row t l.length (fill l .nil 0) u
  | .map es clk => .map es clk
abbrev LH := List (Nat × LB)
noncomputable def putAll (h : T B) : LH → T B
  | [] => h
  | x :: l => put (putAll h l) x.1 (some x.2.toB)
noncomputable def lst (n : Nat) (l : LH) : St := ⟨putAll .nil l, n⟩
def optSame (a b : Option Nat) : Bool := match a with
  | none => match b with
    | none => true
    | some _ => false
  | some x => match b with
    | none => false
    | some y => Nat.beq x y
def csSame : List C → List C → Bool
  | [], [] => true
  | a :: l, b :: r => match decide (a = b) with
    | true => csSame l r
    | false => false
  | _, _ => false
noncomputable def hasB (x : Option B) (y : LB) : Bool := match x with
  | none => false
  | some b => match b with
    | .row t n cs u => match y with
      | .row t' u' l => Nat.beq t t' && optSame u u' && Nat.beq n l.length && (match take cs n 0 with
        | some l' => csSame l' l
        | none => false)
      | _ => false
    | .map es clk => match y with
      | .map es' clk' => Nat.beq clk clk' && decide (es = es')
      | _ => false
    | _ => false
noncomputable def hasAll (h : T B) : LH → Bool
  | [] => true
  | x :: l => match hasB (get h x.1) x.2 with
    | true => hasAll h l
    | false => false
def rootOk (n : Nat) (v : Option B) (b : Nat) : Bool := match v with
  | none => true
  | some _ => Nat.ble (Nat.succ b) n
def and3 (x y : Bool) (z : Bool) : Bool := match x with
  | true => match y with
    | true => z
    | false => false
  | false => false
/-- All keys a * j + b of the tree lie below n. -/
noncomputable def keysLt (n : Nat) (t : T B) : Nat → Nat → Bool :=
  T.rec (motive := fun _ => Nat → Nat → Bool) (fun _ _ => true) (fun v _ _ gl gr a b => and3 (rootOk n v b) (gl (Nat.mul 2 a) (Nat.add a b)) (gr (Nat.mul 2 a) (Nat.add (Nat.mul 2 a) b))) t
def allGe (n : Nat) : LH → Bool
  | [] => true
  | x :: l => match Nat.ble n x.1 with
    | true => allGe n l
    | false => false
def vsSame : List V → List V → Bool
  | [], [] => true
  | a :: l, b :: r => match vSame a b with
    | true => vsSame l r
    | false => false
  | _, _ => false
/-- A call: on what it was run, what came of it. -/
structure Orc where
  f : Nat
  args : List V
  pre : LH
  nx : Nat
  v : V
  post : LH
  nx' : Nat
/-- What is to be run. -/
noncomputable def orcFact (call : CallT) (o : Orc) : Bool := match call o.f o.args (lst o.nx o.pre) with
  | some x => vSame x.1 o.v && hasAll x.2.heap o.pre && hasAll x.2.heap o.post && Nat.ble x.2.next o.nx' && allGe o.nx o.post
  | none => false
noncomputable def tryO (o : Orc) (args : List V) (σ : St) : Option (V × St) := match vsSame args o.args with
  | false => none
  | true => match Nat.ble σ.next o.nx with
    | false => none
    | true => match keysLt σ.next σ.heap 1 0 with
      | false => none
      | true => match hasAll σ.heap o.pre with
        | false => none
        | true => some (o.v, ⟨putAll σ.heap o.post, o.nx'⟩)
noncomputable def tryAll (f : Nat) (args : List V) (σ : St) : List Orc → Option (V × St)
  | [] => none
  | o :: l => match Nat.beq f o.f with
    | false => tryAll f args σ l
    | true => match tryO o args σ with
      | some x => some x
      | none => tryAll f args σ l
theorem optSame_eq {a b : Option Nat} (h : optSame a b = true) : a = b := by
  cases a <;> cases b <;> simp [optSame] at h
  · rfl
  · rw [h]
theorem csSame_eq : ∀ {l r : List C}, csSame l r = true → l = r
  | [], [], _ => rfl
  | a :: l, b :: r, h => by
    rw [csSame] at h
    split at h
    · rename_i he
      rw [of_decide_eq_true he, csSame_eq h]
    · cases h
theorem vsSame_eq : ∀ {l r : List V}, vsSame l r = true → l = r
  | [], [], _ => rfl
  | a :: l, b :: r, h => by
    rw [vsSame] at h
    split at h
    · rename_i he
      rw [vSame_eq he, vsSame_eq h]
    · cases h
theorem keysLt_ok {n : Nat} : ∀ {t : T B} {a b : Nat}, keysLt n t a b = true → ∀ j x, t.get j = some x → a * j + b < n
  | .nil, a, b, _, j, x, hx => by rw [T.get_nil] at hx; cases hx
  | .node v l r, a, b, h, j, x, hx => by
    have key : keysLt n l (2 * a) (a + b) = true ∧ keysLt n r (2 * a) (2 * a + b) = true ∧ (∀ y, v = some y → b < n) := by
      have h' : and3 (rootOk n v b) (keysLt n l (2 * a) (a + b)) (keysLt n r (2 * a) (2 * a + b)) = true := h
      unfold and3 at h'
      split at h'
      · rename_i h0
        split at h'
        · rename_i h1
          exact ⟨h1, h', fun y hy => by rw [hy] at h0; exact Nat.le_of_ble_eq_true h0⟩
        · cases h'
      · cases h'
    obtain ⟨k1, k2, k3⟩ := key
    cases j with
    | zero =>
      have hv : v = some x := hx
      simpa using k3 x hv
    | succ j =>
      rw [T.get] at hx
      rcases Nat.mod_two_eq_zero_or_one j with e | e
      · rw [e] at hx
        have := keysLt_ok k1 (j / 2) x hx
        have e2 : j = 2 * (j / 2) := by omega
        have e3 : 2 * a * (j / 2) = a * j := by rw [Nat.mul_comm 2 a, Nat.mul_assoc, ← e2]
        rw [e3] at this
        rw [Nat.mul_add, Nat.mul_one]
        omega
      · rw [e] at hx
        have := keysLt_ok k2 (j / 2) x hx
        have e2 : j = 2 * (j / 2) + 1 := by omega
        have e3 : 2 * a * (j / 2) + a = a * j := by
          have : a * (2 * (j / 2) + 1) = 2 * a * (j / 2) + a := by rw [Nat.mul_add, Nat.mul_one, ← Nat.mul_assoc, Nat.mul_comm a 2]
          rw [← this, ← e2]
        rw [Nat.mul_add, Nat.mul_one]
        omega
section
variable {Pr : Program} {w0 w w' : World} {m m' : M} {σ σ' : St}
theorem hasB_down {r : Nat × Nat} {b : B} {y : LB} {o : Option Obj} (h : hasB (some b) y = true) (hb : BR m r b o) : BR m r y.toB o := by
  unfold hasB at h
  cases b with
  | row t n cs u =>
    cases y with
    | row t' u' l =>
      simp only [Bool.and_eq_true] at h
      obtain ⟨⟨⟨h1, h2⟩, h3⟩, h4⟩ := h
      have h1 := Nat.eq_of_beq_eq_true h1
      have h2 := optSame_eq h2
      have h3 := Nat.eq_of_beq_eq_true h3
      subst h1 h2 h3
      split at h4
      · rename_i l' hl'
        have := csSame_eq h4
        subst this
        rw [take_eq] at hl'
        obtain ⟨t1, t2⟩ := T.take_spec _ _ _ _ hl'
        obtain ⟨cur, ty, fr, g1, g2, g3, g4, g5⟩ := hb
        refine ⟨cur, ty, fr, g1, g2, g3, fun j c hj hc => ?_, g5⟩
        rw [fill_eq, T.get_fill, T.get_nil] at hc
        split at hc
        · have := t2 j hj
          rw [Nat.zero_add] at this
          exact g4 j c hj (by rw [this]; simpa using hc)
        · cases hc
      · cases h4
    | map es clk => cases h
  | map es clk =>
    cases y with
    | row t' u' l => cases h
    | map es' clk' =>
      simp only [Bool.and_eq_true] at h
      have h1 := Nat.eq_of_beq_eq_true h.1
      have h2 := of_decide_eq_true h.2
      subst h1 h2
      exact hb
  | iter s pos => cases y <;> cases h
  | miter a b c d => cases y <;> cases h
theorem hasB_up {r : Nat × Nat} {b : B} {y : LB} {o : Option Obj} (h : hasB (some b) y = true) (hb : BR m r y.toB o) : BR m r b o := by
  unfold hasB at h
  cases b with
  | row t n cs u =>
    cases y with
    | row t' u' l =>
      simp only [Bool.and_eq_true] at h
      obtain ⟨⟨⟨h1, h2⟩, h3⟩, h4⟩ := h
      have h1 := Nat.eq_of_beq_eq_true h1
      have h2 := optSame_eq h2
      have h3 := Nat.eq_of_beq_eq_true h3
      subst h1 h2 h3
      split at h4
      · rename_i l' hl'
        have := csSame_eq h4
        subst this
        rw [take_eq] at hl'
        obtain ⟨t1, t2⟩ := T.take_spec _ _ _ _ hl'
        obtain ⟨cur, ty, fr, g1, g2, g3, g4, g5⟩ := hb
        refine ⟨cur, ty, fr, g1, g2, g3, fun j c hj hc => ?_, g5⟩
        refine g4 j c hj ?_
        rw [fill_eq, T.get_fill, T.get_nil, if_pos ⟨Nat.zero_le _, by omega⟩]
        have := t2 j hj
        rw [Nat.zero_add] at this
        rw [Nat.sub_zero, ← this]
        exact hc
      · cases h4
    | map es clk => cases h
  | map es clk =>
    cases y with
    | row t' u' l => cases h
    | map es' clk' =>
      simp only [Bool.and_eq_true] at h
      have h1 := Nat.eq_of_beq_eq_true h.1
      have h2 := of_decide_eq_true h.2
      subst h1 h2
      exact hb
  | iter s pos => cases y <;> cases h
  | miter a b c d => cases y <;> cases h
theorem hasAll_ok {h : T B} : ∀ {l : LH}, hasAll h l = true → ∀ x ∈ l, ∃ b, h.get x.1 = some b ∧ hasB (some b) x.2 = true
  | [], _, x, hx => by cases hx
  | y :: l, hh, x, hx => by
    rw [hasAll] at hh
    split at hh
    · rename_i hb
      rcases List.mem_cons.1 hx with rfl | hx
      · rw [get_eq] at hb
        cases hg : h.get x.1 with
        | none => rw [hg] at hb; cases hb
        | some b => rw [hg] at hb; exact ⟨b, rfl, hb⟩
      · exact hasAll_ok hh x hx
    · cases hh
theorem get_putAll {h : T B} : ∀ {l : LH} {i : Nat} {b : B}, (putAll h l).get i = some b → (∃ y, (i, y) ∈ l ∧ b = y.toB) ∨ ((∀ y, (i, y) ∉ l) ∧ h.get i = some b)
  | [], i, b, hb => .inr ⟨(fun y hy => by cases hy), hb⟩
  | x :: l, i, b, hb => by
    rw [putAll, put_eq, T.get_put] at hb
    split at hb
    · rename_i he
      cases hb
      exact .inl ⟨x.2, by subst he; simp, rfl⟩
    · rename_i he
      rcases get_putAll hb with ⟨y, h1, h2⟩ | ⟨h1, h2⟩
      · exact .inl ⟨y, by simp [h1], h2⟩
      · refine .inr ⟨fun y hy => ?_, h2⟩
        rcases List.mem_cons.1 hy with hy | hy
        · exact he (by rw [← hy])
        · exact h1 y hy
theorem putAll_ne {h : T B} : ∀ {l : LH} {i : Nat}, (∀ y, (i, y) ∉ l) → (putAll h l).get i = h.get i
  | [], i, _ => rfl
  | x :: l, i, hn => by
    rw [putAll, put_eq, T.put_ne _ _ fun he => hn x.2 (by rw [he]; simp)]
    exact putAll_ne fun y hy => hn y (by simp [hy])
theorem allGe_ok {n : Nat} : ∀ {l : LH}, allGe n l = true → ∀ x ∈ l, n ≤ x.1
  | [], _, x, hx => by cases hx
  | y :: l, h, x, hx => by
    rw [allGe] at h
    split at h
    · rename_i hb
      rcases List.mem_cons.1 hx with rfl | hx
      · exact Nat.le_of_ble_eq_true hb
      · exact allGe_ok h x hx
    · cases h
/-- Less is known of the memory. -/
theorem HR.sub (h : HR w0 m σ w) {n : Nat} {l : LH} (hn : σ.next ≤ n) (hl : hasAll σ.heap l = true) : HR w0 m (lst n l) w := by
  have key : ∀ i b, (lst n l).heap.get i = some b → ∃ y b', (i, y) ∈ l ∧ b = y.toB ∧ σ.heap.get i = some b' ∧ hasB (some b') y = true := by
    intro i b hb
    rcases get_putAll hb with ⟨y, h1, h2⟩ | ⟨_, h2⟩
    · obtain ⟨b', h3, h4⟩ := hasAll_ok hl (i, y) h1
      exact ⟨y, b', h1, h2, h3, h4⟩
    · rw [T.get_nil] at h2; cases h2
  refine ⟨h.below, h.glob, h.sym, Nat.le_trans h.most hn, fun i hi => h.fresh i (Nat.le_trans hn hi), h.own, fun i b r hi hr => ?_, fun i j bi bj r q hi hj hr hq hrq => ?_⟩
  · obtain ⟨y, b', _, rfl, h3, h4⟩ := key i b hi
    exact hasB_down h4 (h.live i b' r h3 hr)
  · obtain ⟨y, b', _, _, h3, _⟩ := key i bi hi
    obtain ⟨y', b'', _, _, h3', _⟩ := key j bj hj
    exact h.inj i j b' b'' r q h3 h3' hr hq hrq
theorem merge_ok {o : Orc} (h : HR w0 m σ w) (hle : σ.next ≤ o.nx) (hk : keysLt σ.next σ.heap 1 0 = true) (hp : hasAll σ.heap o.pre = true)
    (hG : Gr m (lst o.nx o.pre) w m' σ' w') (hH : HR w0 m' σ' w') (h1 : hasAll σ'.heap o.pre = true) (h2 : hasAll σ'.heap o.post = true) (h3 : σ'.next ≤ o.nx') (h4 : allGe o.nx o.post = true) :
    Gr m σ w m' ⟨putAll σ.heap o.post, o.nx'⟩ w' ∧ HR w0 m' ⟨putAll σ.heap o.post, o.nx'⟩ w' := by
  have hge := allGe_ok h4
  have low : ∀ i, i < o.nx → ∀ y, (i, y) ∉ o.post := fun i hi y hy => by have := hge _ hy; simp at this; omega
  have keys : ∀ i b, σ.heap.get i = some b → i < σ.next := fun i b hb => by have := keysLt_ok hk i b hb; omega
  have hnx : (lst o.nx o.pre).next = o.nx := rfl
  -- the blocks that are known to the call
  have preK : ∀ i b, (lst o.nx o.pre).heap.get i = some b → ∃ y, (i, y) ∈ o.pre := fun i b hb => by
    rcases get_putAll hb with ⟨y, g1, _⟩ | ⟨_, g2⟩
    · exact ⟨y, g1⟩
    · rw [T.get_nil] at g2; cases g2
  have preS : ∀ i b, (lst o.nx o.pre).heap.get i = some b → ∃ b', σ.heap.get i = some b' := fun i b hb => by
    obtain ⟨y, hy⟩ := preK i b hb
    obtain ⟨b', g1, _⟩ := hasAll_ok hp _ hy
    exact ⟨b', g1⟩
  have back : ∀ i r, i < o.nx → m' i = some r → m i = some r := fun i r hi hr => by
    rcases hG.news i r hr with g | ⟨_, g, _⟩
    · exact g
    · rw [hnx] at g; omega
  -- a block of the state that the call does not know
  have far : ∀ i b r, σ.heap.get i = some b → m i = some r → (∀ y, (i, y) ∉ o.pre) → w'.heap[r.1]? = w.heap[r.1]? := fun i b r hi hr hn => by
    refine hG.kept r.1 (h.live i b r hi hr).lt fun j x p hj hpj he => ?_
    obtain ⟨b', hb'⟩ := preS j x hj
    have := h.inj j i b' b p r hb' hi hpj hr he
    subst this
    obtain ⟨y, hy⟩ := preK j x hj
    exact hn y hy
  have hnext := hG.next
  rw [hnx] at hnext
  refine ⟨⟨hG.ext, h.fresh, by show σ.next ≤ o.nx'; omega, hG.size, fun i r hr => ?_, fun i hi _ => putAll_ne (low i (by omega)), fun i hi hd => (putAll_ne (low i (by omega))).trans hd, fun b hb hl => ?_⟩,
    ⟨hH.below, hH.glob, hH.sym, Nat.le_trans hH.most h3, fun i hi => hH.fresh i (Nat.le_trans h3 hi), hH.own, fun i b r hi hr => ?_, fun i j bi bj r q hi hj hr hq hrq => ?_⟩⟩
  · rcases hG.news i r hr with g | ⟨g1, g2, g3⟩
    · exact .inl g
    · rw [hnx] at g2
      refine .inr ⟨g1, by omega, g3.imp id ?_⟩
      rintro ⟨j, x, q, e1, e2, e3⟩
      obtain ⟨b', hb'⟩ := preS j x e1
      exact ⟨j, b', q, hb', e2, e3⟩
  · refine hG.kept b hb fun i x r hi hr => ?_
    obtain ⟨b', hb'⟩ := preS i x hi
    exact hl i b' r hb' hr
  · rcases get_putAll hi with ⟨y, g1, rfl⟩ | ⟨g1, g2⟩
    · obtain ⟨b', e1, e2⟩ := hasAll_ok h2 _ g1
      exact hasB_down e2 (hH.live i b' r e1 hr)
    · have hlt := keys i b g2
      have hmi := back i r (by omega) hr
      by_cases hin : ∃ y, (i, y) ∈ o.pre
      · obtain ⟨y, hy⟩ := hin
        obtain ⟨b', e1, e2⟩ := hasAll_ok h1 _ hy
        obtain ⟨b'', e3, e4⟩ := hasAll_ok hp _ hy
        rw [g2] at e3
        cases e3
        exact hasB_up e4 (hasB_down e2 (hH.live i b' r e1 hr))
      · rw [far i b r g2 hmi fun y hy => hin ⟨y, hy⟩]
        exact (h.live i b r g2 hmi).ext hG.ext
  · have one : ∀ i b r, (putAll σ.heap o.post).get i = some b → m' i = some r → (∃ b', σ'.heap.get i = some b' ∧ (o.nx ≤ i ∨ ∃ y, (i, y) ∈ o.pre)) ∨ (∃ b', σ.heap.get i = some b' ∧ m i = some r ∧ ∀ y, (i, y) ∉ o.pre) := by
      intro i b r hi hr
      rcases get_putAll hi with ⟨y, g1, rfl⟩ | ⟨g1, g2⟩
      · obtain ⟨b', e1, _⟩ := hasAll_ok h2 _ g1
        exact .inl ⟨b', e1, .inl (hge _ g1)⟩
      · have hlt := keys i b g2
        by_cases hin : ∃ y, (i, y) ∈ o.pre
        · obtain ⟨y, hy⟩ := hin
          obtain ⟨b', e1, _⟩ := hasAll_ok h1 _ hy
          exact .inl ⟨b', e1, .inr ⟨y, hy⟩⟩
        · exact .inr ⟨b, g2, back i r (by omega) hr, fun y hy => hin ⟨y, hy⟩⟩
    have cross : ∀ i j bi bj r q, σ'.heap.get i = some bi → m' i = some r → (σ.heap.get j = some bj ∧ m j = some q ∧ ∀ y, (j, y) ∉ o.pre) → r.1 ≠ q.1 := by
      intro i j bi bj r q hi hr ⟨hj, hq, hn⟩ he
      have hlt := (h.live j bj q hj hq).lt
      rcases hG.news i r hr with g | ⟨_, _, g | ⟨j2, x, p, e1, e2, e3⟩⟩
      · obtain ⟨y', hy'⟩ := hG.old hi g
        obtain ⟨b', hb'⟩ := preS i y' hy'
        have := h.inj i j b' bj r q hb' hj g hq he
        subst this
        obtain ⟨y, hy⟩ := preK i y' hy'
        exact hn y hy
      · omega
      · obtain ⟨b', hb'⟩ := preS j2 x e1
        have := h.inj j2 j b' bj p q hb' hj e2 hq (by omega)
        subst this
        obtain ⟨y, hy⟩ := preK j2 x e1
        exact hn y hy
    rcases one i bi r hi hr with ⟨bi', a1, _⟩ | ⟨bi', a1, a2, a3⟩ <;> rcases one j bj q hj hq with ⟨bj', c1, _⟩ | ⟨bj', c1, c2, c3⟩
    · exact hH.inj i j bi' bj' r q a1 c1 hr hq hrq
    · exact absurd hrq (cross i j bi' bj' r q a1 hr ⟨c1, c2, c3⟩)
    · exact absurd hrq.symm (cross j i bj' bi' q r c1 hq ⟨a1, a2, a3⟩)
    · exact h.inj i j bi' bj' r q a1 c1 a2 c2 hrq
theorem tryO_ok {call : CallT} (hcall : CallOk Pr w0 call) {o : Orc} (hf : orcFact call o = true) : CallOk Pr w0 fun f args σ => match Nat.beq f o.f with | true => tryO o args σ | false => none := by
  intro f args σ v σ2 m w vs h hH hv
  simp only at h
  split at h
  · rename_i hfe
    have hfe := Nat.eq_of_beq_eq_true hfe
    subst hfe
    unfold tryO at h
    split at h
    · cases h
    · rename_i ha
      have ha := vsSame_eq ha
      subst ha
      split at h
      · cases h
      · rename_i hle
        have hle := Nat.le_of_ble_eq_true hle
        split at h
        · cases h
        · rename_i hk
          split at h
          · cases h
          · rename_i hp
            cases h
            unfold orcFact at hf
            split at hf
            · rename_i x hx
              simp only [Bool.and_eq_true] at hf
              obtain ⟨⟨⟨⟨f1, f2⟩, f3⟩, f4⟩, f5⟩ := hf
              have f1 := vSame_eq f1
              have f4 := Nat.le_of_ble_eq_true f4
              have hS := HR.sub hH hle hp
              rcases hcall o.f o.args _ x.1 x.2 m w vs hx hS hv with ⟨m', v', w', e, h5, h6, h7⟩ | ⟨h5, h6⟩
              · obtain ⟨g1, g2⟩ := merge_ok hH hle hk hp e h6 f2 f3 f4 f5
                exact .inl ⟨m', v', w', g1, h5, g2, by rw [← f1]; exact h7⟩
              · refine .inr ⟨h5, h6.mono ?_⟩
                rintro e' w' ⟨m', v', h8, e, h9, h10⟩
                obtain ⟨g1, g2⟩ := merge_ok hH hle hk hp e h9 f2 f3 f4 f5
                exact ⟨m', v', h8, g1, g2, by rw [← f1]; exact h10⟩
            · cases hf
  · cases h
theorem tryAll_ok {Pr : Program} {w0 : World} : ∀ {l : List Orc}, (∀ o ∈ l, CallOk Pr w0 fun f args σ => match Nat.beq f o.f with | true => tryO o args σ | false => none) → CallOk Pr w0 fun f args σ => tryAll f args σ l
  | [], _ => fun f args σ v σ2 m w vs h => by cases h
  | o :: l, ho => fun f args σ v σ2 m w vs h hH hv => by
    have ih := tryAll_ok (l := l) fun o' h' => ho o' (by simp [h'])
    simp only [tryAll] at h
    split at h
    · exact ih f args σ v σ2 m w vs h hH hv
    · rename_i hfe
      split at h
      · rename_i x hx
        refine ho o (by simp) f args σ v σ2 m w vs ?_ hH hv
        simp only [hfe]
        rw [hx]; exact h
      · exact ih f args σ v σ2 m w vs h hH hv
end
end Kv
end Go.Proofs.YtbemdcbglpjmiaaGreatDoor
