/- The fast evaluator: regions and code, out of what the operations do. No program in sight. -/
import Derived.Test.YtbnnfoimkdbjaaaGreatDoorKvX
namespace Go.Proofs.YtbnnfoimkdbjaaaGreatDoor
open Go.RowKit
namespace Kv
open Ev
set_option linter.unusedVariables false
/-- What the evaluator says of calls. -/
def CallOk (Pr : Program) (w0 : World) (call : CallT) : Prop := ∀ f args σ v σ' m w (vs : Array Value), call f args σ = some (v, σ') → HR w0 m σ w → All2 (VR m) args vs.toList →
  (∃ m' v' w', Gr m σ w m' σ' w' ∧ (callFunc f vs).run Pr w = .ok (.value v') w' ∧ HR w0 m' σ' w' ∧ VR m' v v') ∨
  ((callFunc f vs).run Pr w = .ok (.enter f vs) w ∧ Calls Pr f vs w fun e w' => ∃ m' v', e = .returned v' ∧ Gr m σ w m' σ' w' ∧ HR w0 m' σ' w' ∧ VR m' v v')
def ActOk (Pr : Program) (w0 : World) (tt : T TypeInfo) (fl : T (List TypeDesc)) : Prop := ∀ o : Oper, AcOk Pr w0 o (act tt fl o.op)
section
variable {Pr : Program} {w0 w : World} {m m' : M} {σ σ' : St} {F F' : Fr} {a : Go.Act} {n : Nat} {call : CallT} {tt : T TypeInfo} {fl : T (List TypeDesc)}
theorem FR.put (hF : FR m n F a) (e : Ext m m') {d : Option Nat} {v : V} {v' : Value} (hd : dstOk n d = true) (hv : VR m' v v') : FR m' n (putV (dstP d) v F) (a.put d v') := by
  cases d with
  | none => exact ⟨hF.size, hF.defers, fun t => (hF.slot t).ext e⟩
  | some k =>
    have hk := Nat.le_of_ble_eq_true hd
    have hsz := hF.size
    refine ⟨by simpa [Go.Act.put] using hF.size, hF.defers, fun t => ?_⟩
    show VR m' (((putP v (path k) F).get t).getD .undef) _
    rw [putP_path, T.get_put]
    by_cases h : t = k
    · subst h
      have : t < a.tmps.size := by omega
      simpa [Go.Act.put, this] using hv
    · have h1 : (a.put (some k) v').tmps.getD t undef = a.tmps.getD t undef := by
        simp [Go.Act.put, Array.getElem?_setIfInBounds_ne (Ne.symm h)]
      rw [if_neg h, h1]
      exact (hF.slot t).ext e
theorem runA_ok {o : Oper} {ac : Ac} {r : R} (hA : AcOk Pr w0 o ac) (hF : FR m n F a) (hH : HR w0 m σ w) (h : (runA ac).f F σ = some r) : Good Pr w0 m σ w (execOp a.eval o) r := by
  cases ac with
  | pure f =>
    have h : pureF f F σ = some r := h
    unfold pureF at h
    split at h
    · rename_i v hv
      cases h
      obtain ⟨v', h1, h2⟩ := hA n F a m w v hF hH.glob hv
      exact ⟨m, v', w, Gr.refl hH, h1, hH, h2⟩
    · cases h
  | read f =>
    have h : readF f F σ = some r := h
    unfold readF at h
    split at h
    · rename_i v hv
      cases h
      obtain ⟨v', h1, h2⟩ := hA n F a m σ w v hF hH hv
      exact ⟨m, v', w, Gr.refl hH, h1, hH, h2⟩
    · cases h
  | alloc f =>
    have h : allocF f F σ = some r := h
    unfold allocF at h
    split at h
    · rename_i z hz
      obtain ⟨v', ob, k, h1, h2⟩ := hA n F a m w z hF hH.glob hz
      obtain ⟨hp, nx⟩ := σ
      have h' : some (R.val (.p (.c (z.pt nx))) ⟨put hp nx (some z.b), Nat.succ nx⟩) = some r := h
      rw [put_eq] at h'
      cases h'
      have hn := hH.fresh nx (Nat.le_refl _)
      obtain ⟨h3, h4⟩ := h2 (m.add nx (w.heap.size, k)) nx (M.ext_add _ hn) (M.add_same ..)
      exact ⟨_, v', _, Gr.new hH ob z.b k, h1, HR.new hH ob z.b k h3, h4⟩
    · cases h
  | loud f => exact hA n F a m σ w r hF hH h
  | bad => cases h
theorem finish_ok {o : Oper} {r : Option R} {K : Go.Act → World → Prop} {Q : Exit → Go.Act → World → Prop} (hcall : CallOk Pr w0 call) (hF : FR m n F a) (hH : HR w0 m σ w)
    (hd : dstOk n o.dst = true) (hg : ∀ x, r = some x → Good Pr w0 m σ w (execOp a.eval o) x) (h : finish (dstP o.dst) call F r = some (F', σ'))
    (hK : ∀ m' a' w', Gr m σ w m' σ' w' → FR m' n F' a' → HR w0 m' σ' w' → K a' w') : o.wp Pr a w K Q := by
  cases r with
  | none => cases h
  | some x =>
    have hg := hg x rfl
    unfold Oper.wp
    cases x with
    | val v σ₁ =>
      obtain ⟨m', v', w', e, h2, h3, h4⟩ := hg
      cases h
      rw [h2]
      exact hK m' _ w' e (hF.put e.ext hd h4) h3
    | skip σ₁ =>
      obtain ⟨m', w', e, h2, h3⟩ := hg
      cases h
      rw [h2]
      exact hK m' _ w' e (hF.put e.ext hd rfl) h3
    | call f args σ₁ =>
      obtain ⟨rfl, vs, h3, h4⟩ := hg
      rw [h4]
      simp only [finish] at h
      split at h
      · rename_i x hx
        cases h
        rcases hcall f args σ₁ x.1 x.2 m w vs hx hH h3 with ⟨m', v', w', e, h5, h6, h7⟩ | ⟨h5, h6⟩
        · rw [h5]
          exact hK m' _ w' e (hF.put e.ext hd h7) h6
        · rw [h5]
          refine h6.mono ?_
          rintro _ w' ⟨m', v', rfl, e, h7, h8⟩
          exact hK m' _ w' e (hF.put e.ext hd h8) h7
      · cases h
theorem wanted_of {o q : Oper} {ops : Array Oper} {j d : Nat} {b : Bool} (hF : FR m n F a) (hg : o.guard = some (j, b)) (hj : ops[j]? = some q) (hq : q.dst = some d) :
    (∀ x, getP (path d) F = .p (.c (.bool x)) → Region.wanted o (yielded ops a.tmps) = (x == b)) ∧ (getP (path d) F = .undef → Region.wanted o (yielded ops a.tmps) = false) := by
  have hs := hF.slot d
  rw [← getP_path] at hs
  constructor
  · intro x hx
    rw [hx] at hs
    have hs : a.tmps.getD d undef = .bool x := hs
    have h1 : a.tmps[d]? = some (.bool x) := by
      rw [Array.getD_eq_getD_getElem?] at hs
      cases h2 : a.tmps[d]? with
      | none => rw [h2] at hs; cases hs
      | some v => rw [h2] at hs; exact congrArg some hs
    simp [Region.wanted, hg, yielded, hj, hq, h1]
  · intro hx
    rw [hx] at hs
    have hs : a.tmps.getD d undef = undef := hs
    have h1 : a.tmps[d]? = some undef ∨ a.tmps[d]? = none := by
      rw [Array.getD_eq_getD_getElem?] at hs
      cases h2 : a.tmps[d]? with
      | none => exact .inr rfl
      | some v => rw [h2] at hs; exact .inl (congrArg some hs)
    rcases h1 with h1 | h1 <;> simp [Region.wanted, hg, yielded, hj, hq, h1, undef]
theorem step_ok {ops : Array Oper} {o : Oper} {K : Go.Act → World → Prop} {Q : Exit → Go.Act → World → Prop} (hact : ActOk Pr w0 tt fl) (hcall : CallOk Pr w0 call) (hF : FR m n F a) (hH : HR w0 m σ w)
    (h : (step tt fl n ops o).f call F σ = some (F', σ')) (hK : ∀ m' a' w', Gr m σ w m' σ' w' → FR m' n F' a' → HR w0 m' σ' w' → K a' w') :
    if Region.wanted o (yielded ops a.tmps) then o.wp Pr a w K Q ∨ (o.asks Pr a w ∧ LetsOut Q) else K (a.put o.dst undef) w := by
  unfold step at h
  split at h
  · cases h
  · rename_i hd
    split at h
    · rename_i hg
      have hw : Region.wanted o (yielded ops a.tmps) = true := by simp [Region.wanted, hg]
      rw [if_pos hw]
      exact .inl (finish_ok hcall hF hH hd (fun x hx => runA_ok (hact o) hF hH hx) h hK)
    · rename_i j b hg
      split at h
      · rename_i q hj
        split at h
        · rename_i d hq
          obtain ⟨h1, h2⟩ := wanted_of hF hg hj hq
          simp only [stepG] at h
          split at h
          · rename_i x hx
            have h1 := h1 x hx
            split at h
            · rename_i hb
              have : (x == b) = true := by cases b <;> cases x <;> simp_all [bNot]
              rw [h1, if_pos this]
              exact .inl (finish_ok hcall hF hH hd (fun x hx => runA_ok (hact o) hF hH hx) h hK)
            · rename_i hb
              have : ¬ (x == b) = true := by cases b <;> cases x <;> simp_all [bNot]
              rw [h1, if_neg this]
              cases h
              exact hK m _ w (Gr.refl hH) (hF.put (Ext.refl m) hd rfl) hH
          · rename_i hx
            rw [h2 hx]
            cases h
            exact hK m _ w (Gr.refl hH) (hF.put (Ext.refl m) hd rfl) hH
          · cases h
        · cases h
      · cases h
theorem steps_ok {ops : Array Oper} {Q : Exit → Go.Act → World → Prop} (hact : ActOk Pr w0 tt fl) (hcall : CallOk Pr w0 call) :
    ∀ (l : List Oper) (k : Nat) {m : M} {σ : St} {F : Fr} {a : Go.Act} {w : World} {x : E × Fr × St}, (∀ i, l[i]? = ops[k + i]?) → FR m n F a → HR w0 m σ w →
    (steps tt fl n ops l).f call F σ = some x → (x.1 = .normal → ∀ m' a' w', Gr m σ w m' x.2.2 w' → FR m' n x.2.1 a' → HR w0 m' x.2.2 w' → Q .normal a' w') →
    wpOps Pr ops Q (List.range' k l.length) a w
  | [], k, m, σ, F, a, w, x, hl, hF, hH, h, hQ => by
    cases h
    exact hQ rfl m a w (Gr.refl hH) hF hH
  | o :: l, k, m, σ, F, a, w, x, hl, hF, hH, h, hQ => by
    have ho : ops[k]? = some o := by simpa using (hl 0).symm
    rw [List.length_cons, List.range'_succ, wpOps_cons]
    unfold wpOp
    simp only [ho]
    have h' : after (step tt fl n ops o) (steps tt fl n ops l) call F σ = some x := h
    unfold after at h'
    split at h'
    · rename_i y hy
      refine step_ok hact hcall hF hH (F' := y.1) (σ' := y.2) hy fun m' a' w' e hF' hH' => ?_
      refine steps_ok hact hcall l (k + 1) (fun i => ?_) hF' hH' h' fun hx m'' a'' w'' e' hF'' hH'' => hQ hx m'' a'' w'' (e.trans e') hF'' hH''
      have := hl (i + 1)
      rw [List.getElem?_cons_succ] at this
      rw [this]; congr 1; omega
    · cases h'
def exitOf : E → Exit
  | .normal => .normal
  | .exit i => .exit i
  | .ret => .ret
end
end Kv
end Go.Proofs.YtbnnfoimkdbjaaaGreatDoor
