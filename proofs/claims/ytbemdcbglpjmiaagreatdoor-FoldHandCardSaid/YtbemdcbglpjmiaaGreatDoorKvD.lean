/- The fast evaluator: regions and code, out of what the operations do. No program in sight. The fast evaluator: what a drawn region's evaluation tells. No program in sight. -/
import Derived.Test.YtbemdcbglpjmiaaGreatDoorKvX
namespace Go.Proofs.YtbemdcbglpjmiaaGreatDoor
open Go.RowKit
namespace Kv
open Ev
set_option linter.unusedVariables false
/-- What the evaluator says of calls. -/
def CallOk (Pr : Program) (w0 : World) (call : CallT) : Prop := ∀ f args σ v σ' m w (vs : Array Value), call f args σ = some (v, σ') → HR w0 m σ w → All2 (VR m) args vs.toList →
  (∃ m' v' w', Gr m σ w m' σ' w' ∧ (callFunc f vs).run Pr w = .ok (.value v') w' ∧ HR w0 m' σ' w' ∧ VR m' v v') ∨
  ((callFunc f vs).run Pr w = .ok (.enter f vs) w ∧ Calls Pr f vs w fun e w' => ∃ m' v', e = .returned v' ∧ Gr m σ w m' σ' w' ∧ HR w0 m' σ' w' ∧ VR m' v v')
def ActOk (Pr : Program) (w0 : World) (tt : T TypeInfo) (fl : T (List TypeDesc)) : Prop := ∀ o : Oper, AcOk Pr w0 o (act tt fl o.op)
section
variable {Pr : Program} {w0 w : World} {m m' : M} {σ σ' : St} {F F' : Fr} {a : Go.Act} {n : Nat} {call : CallT} {tt : T TypeInfo} {fl : T (List TypeDesc)}
theorem FR.put (hF : FR m n F a) (e : Ext m m') {d : Option Nat} {v : V} {v' : Value} (hd : dstOk n d = true) (hv : VR m' v v') : FR m' n (putV (dstP d) v F) (a.put d v') := by
  cases d with
  | none => exact ⟨hF.size, hF.defers, fun t => (hF.slot t).ext e⟩
  | some k =>
    have hk := Nat.le_of_ble_eq_true hd
    have hsz := hF.size
    refine ⟨by simpa [Go.Act.put] using hF.size, hF.defers, fun t => ?_⟩
    show VR m' (((putP v (path k) F).get t).getD .undef) _
    rw [putP_path, T.get_put]
    by_cases h : t = k
    · subst h
      have : t < a.tmps.size := by omega
      simpa [Go.Act.put, this] using hv
    · have h1 : (a.put (some k) v').tmps.getD t undef = a.tmps.getD t undef := by
        simp [Go.Act.put, Array.getElem?_setIfInBounds_ne (Ne.symm h)]
      rw [if_neg h, h1]
      exact (hF.slot t).ext e
theorem runA_ok {o : Oper} {ac : Ac} {r : R} (hA : AcOk Pr w0 o ac) (hF : FR m n F a) (hH : HR w0 m σ w) (h : (runA ac).f F σ = some r) : Good Pr w0 m σ w (execOp a.eval o) r := by
  cases ac with
  | pure f =>
    have h : pureF f F σ = some r := h
    unfold pureF at h
    split at h
    · rename_i v hv
      cases h
      obtain ⟨v', h1, h2⟩ := hA n F a m w v hF hH.glob hv
      exact ⟨m, v', w, Gr.refl hH, h1, hH, h2⟩
    · cases h
  | read f =>
    have h : readF f F σ = some r := h
    unfold readF at h
    split at h
    · rename_i v hv
      cases h
      obtain ⟨v', h1, h2⟩ := hA n F a m σ w v hF hH hv
      exact ⟨m, v', w, Gr.refl hH, h1, hH, h2⟩
    · cases h
  | alloc f =>
    have h : allocF f F σ = some r := h
    unfold allocF at h
    split at h
    · rename_i z hz
      obtain ⟨v', ob, k, h1, h2⟩ := hA n F a m w z hF hH.glob hz
      obtain ⟨hp, nx⟩ := σ
      have h' : some (R.val (.p (.c (z.pt nx))) ⟨put hp nx (some z.b), Nat.succ nx⟩) = some r := h
      rw [put_eq] at h'
      cases h'
      have hn := hH.fresh nx (Nat.le_refl _)
      obtain ⟨h3, h4⟩ := h2 (m.add nx (w.heap.size, k)) nx (M.ext_add _ hn) (M.add_same ..)
      exact ⟨_, v', _, Gr.new hH ob z.b k, h1, HR.new hH ob z.b k h3, h4⟩
    · cases h
  | loud f => exact hA n F a m σ w r hF hH h
  | bad => cases h
theorem finish_ok {o : Oper} {r : Option R} {K : Go.Act → World → Prop} {Q : Exit → Go.Act → World → Prop} (hcall : CallOk Pr w0 call) (hF : FR m n F a) (hH : HR w0 m σ w)
    (hd : dstOk n o.dst = true) (hg : ∀ x, r = some x → Good Pr w0 m σ w (execOp a.eval o) x) (h : finish (dstP o.dst) call F r = some (F', σ'))
    (hK : ∀ m' a' w', Gr m σ w m' σ' w' → FR m' n F' a' → HR w0 m' σ' w' → K a' w') : o.wp Pr a w K Q := by
  cases r with
  | none => cases h
  | some x =>
    have hg := hg x rfl
    unfold Oper.wp
    cases x with
    | val v σ₁ =>
      obtain ⟨m', v', w', e, h2, h3, h4⟩ := hg
      cases h
      rw [h2]
      exact hK m' _ w' e (hF.put e.ext hd h4) h3
    | skip σ₁ =>
      obtain ⟨m', w', e, h2, h3⟩ := hg
      cases h
      rw [h2]
      exact hK m' _ w' e (hF.put e.ext hd rfl) h3
    | call f args σ₁ =>
      obtain ⟨rfl, vs, h3, h4⟩ := hg
      rw [h4]
      simp only [finish] at h
      split at h
      · rename_i x hx
        cases h
        rcases hcall f args σ₁ x.1 x.2 m w vs hx hH h3 with ⟨m', v', w', e, h5, h6, h7⟩ | ⟨h5, h6⟩
        · rw [h5]
          exact hK m' _ w' e (hF.put e.ext hd h7) h6
        · rw [h5]
          refine h6.mono ?_
          rintro _ w' ⟨m', v', rfl, e, h7, h8⟩
          exact hK m' _ w' e (hF.put e.ext hd h8) h7
      · cases h
theorem wanted_of {o q : Oper} {ops : Array Oper} {j d : Nat} {b : Bool} (hF : FR m n F a) (hg : o.guard = some (j, b)) (hj : ops[j]? = some q) (hq : q.dst = some d) :
    (∀ x, getP (path d) F = .p (.c (.bool x)) → Region.wanted o (yielded ops a.tmps) = (x == b)) ∧ (getP (path d) F = .undef → Region.wanted o (yielded ops a.tmps) = false) := by
  have hs := hF.slot d
  rw [← getP_path] at hs
  constructor
  · intro x hx
    rw [hx] at hs
    have hs : a.tmps.getD d undef = .bool x := hs
    have h1 : a.tmps[d]? = some (.bool x) := by
      rw [Array.getD_eq_getD_getElem?] at hs
      cases h2 : a.tmps[d]? with
      | none => rw [h2] at hs; cases hs
      | some v => rw [h2] at hs; exact congrArg some hs
    simp [Region.wanted, hg, yielded, hj, hq, h1]
  · intro hx
    rw [hx] at hs
    have hs : a.tmps.getD d undef = undef := hs
    have h1 : a.tmps[d]? = some undef ∨ a.tmps[d]? = none := by
      rw [Array.getD_eq_getD_getElem?] at hs
      cases h2 : a.tmps[d]? with
      | none => exact .inr rfl
      | some v => rw [h2] at hs; exact .inl (congrArg some hs)
    rcases h1 with h1 | h1 <;> simp [Region.wanted, hg, yielded, hj, hq, h1, undef]
theorem step_ok {ops : Array Oper} {o : Oper} {K : Go.Act → World → Prop} {Q : Exit → Go.Act → World → Prop} (hact : ActOk Pr w0 tt fl) (hcall : CallOk Pr w0 call) (hF : FR m n F a) (hH : HR w0 m σ w)
    (h : (step tt fl n ops o).f call F σ = some (F', σ')) (hK : ∀ m' a' w', Gr m σ w m' σ' w' → FR m' n F' a' → HR w0 m' σ' w' → K a' w') :
    if Region.wanted o (yielded ops a.tmps) then o.wp Pr a w K Q ∨ (o.asks Pr a w ∧ LetsOut Q) else K (a.put o.dst undef) w := by
  unfold step at h
  split at h
  · cases h
  · rename_i hd
    split at h
    · rename_i hg
      have hw : Region.wanted o (yielded ops a.tmps) = true := by simp [Region.wanted, hg]
      rw [if_pos hw]
      exact .inl (finish_ok hcall hF hH hd (fun x hx => runA_ok (hact o) hF hH hx) h hK)
    · rename_i j b hg
      split at h
      · rename_i q hj
        split at h
        · rename_i d hq
          obtain ⟨h1, h2⟩ := wanted_of hF hg hj hq
          simp only [stepG] at h
          split at h
          · rename_i x hx
            have h1 := h1 x hx
            split at h
            · rename_i hb
              have : (x == b) = true := by cases b <;> cases x <;> simp_all [bNot]
              rw [h1, if_pos this]
              exact .inl (finish_ok hcall hF hH hd (fun x hx => runA_ok (hact o) hF hH hx) h hK)
            · rename_i hb
              have : ¬ (x == b) = true := by cases b <;> cases x <;> simp_all [bNot]
              rw [h1, if_neg this]
              cases h
              exact hK m _ w (Gr.refl hH) (hF.put (Ext.refl m) hd rfl) hH
          · rename_i hx
            rw [h2 hx]
            cases h
            exact hK m _ w (Gr.refl hH) (hF.put (Ext.refl m) hd rfl) hH
          · cases h
        · cases h
      · cases h
theorem steps_ok {ops : Array Oper} {Q : Exit → Go.Act → World → Prop} (hact : ActOk Pr w0 tt fl) (hcall : CallOk Pr w0 call) :
    ∀ (l : List Oper) (k : Nat) {m : M} {σ : St} {F : Fr} {a : Go.Act} {w : World} {x : E × Fr × St}, (∀ i, l[i]? = ops[k + i]?) → FR m n F a → HR w0 m σ w →
    (steps tt fl n ops l).f call F σ = some x → (x.1 = .normal → ∀ m' a' w', Gr m σ w m' x.2.2 w' → FR m' n x.2.1 a' → HR w0 m' x.2.2 w' → Q .normal a' w') →
    wpOps Pr ops Q (List.range' k l.length) a w
  | [], k, m, σ, F, a, w, x, hl, hF, hH, h, hQ => by
    cases h
    exact hQ rfl m a w (Gr.refl hH) hF hH
  | o :: l, k, m, σ, F, a, w, x, hl, hF, hH, h, hQ => by
    have ho : ops[k]? = some o := by simpa using (hl 0).symm
    rw [List.length_cons, List.range'_succ, wpOps_cons]
    unfold wpOp
    simp only [ho]
    have h' : after (step tt fl n ops o) (steps tt fl n ops l) call F σ = some x := h
    unfold after at h'
    split at h'
    · rename_i y hy
      refine step_ok hact hcall hF hH (F' := y.1) (σ' := y.2) hy fun m' a' w' e hF' hH' => ?_
      refine steps_ok hact hcall l (k + 1) (fun i => ?_) hF' hH' h' fun hx m'' a'' w'' e' hF'' hH'' => hQ hx m'' a'' w'' (e.trans e') hF'' hH''
      have := hl (i + 1)
      rw [List.getElem?_cons_succ] at this
      rw [this]; congr 1; omega
    · cases h'
def exitOf : E → Exit
  | .normal => .normal
  | .exit i => .exit i
  | .ret => .ret
end
end Kv
end Go.Proofs.YtbemdcbglpjmiaaGreatDoor
namespace Go.Proofs.YtbemdcbglpjmiaaGreatDoor
open Go.RowKit
namespace Kv
open Ev
set_option linter.unusedVariables false
set_option linter.unusedSimpArgs false
/-! ### Whom an operation waits for -/
/-- The bits of number i are those that its edges bring. -/
def MaskAt (M : Nat → Nat) (i : Nat) (o : Oper) : Prop :=
  (∀ e ∈ o.after.toList, Region.binds .any e = true → e.on < i) ∧ ∀ p, bit (M i) p = true → ∃ e ∈ o.after.toList, Region.binds .any e = true ∧ (p = e.on ∨ bit (M e.on) p = true)
theorem bit_lor (a b p : Nat) : bit (Nat.lor a b) p = (bit a p || bit b p) := Nat.testBit_or a b p
theorem bit_pow (e p : Nat) (h : bit (Nat.pow 2 e) p = true) : p = e := by
  have h : Nat.testBit (2 ^ e) p = true := h
  rw [Nat.testBit_two_pow] at h
  exact (of_decide_eq_true h).symm
theorem maskOf_spec {acc : T Nat} {j : Nat} {M : Nat → Nat} (hacc : ∀ i a, acc.get i = some a → a = M i) : ∀ {l : List Edge} {s : Nat}, maskOf acc j l = some s →
    (∀ e ∈ l, Region.binds .any e = true → e.on < j) ∧ ∀ p, bit s p = true → ∃ e ∈ l, Region.binds .any e = true ∧ (p = e.on ∨ bit (M e.on) p = true)
  | [], s, h => by
    cases h
    exact ⟨(fun e he => by cases he), fun p hp => by simp [bit] at hp⟩
  | e :: l, s, h => by
    rw [maskOf] at h
    split at h
    · cases h
    · rename_i s' hs'
      obtain ⟨h1, h2⟩ := maskOf_spec hacc hs'
      split at h
      · rename_i hb
        cases h
        refine ⟨fun e' he' hbe => ?_, fun p hp => ?_⟩
        · rcases List.mem_cons.1 he' with rfl | he'
          · rw [hb] at hbe; cases hbe
          · exact h1 e' he' hbe
        · obtain ⟨e', g1, g2⟩ := h2 p hp
          exact ⟨e', by simp [g1], g2⟩
      · rename_i hb
        split at h
        · cases h
        · rename_i hlt
          have hlt := Nat.le_of_ble_eq_true hlt
          split at h
          · rename_i a ha
            cases h
            rw [get_eq] at ha
            have ha := hacc _ _ ha
            refine ⟨fun e' he' hbe => ?_, fun p hp => ?_⟩
            · rcases List.mem_cons.1 he' with rfl | he'
              · exact hlt
              · exact h1 e' he' hbe
            · rw [bit_lor, bit_lor, Bool.or_eq_true, Bool.or_eq_true] at hp
              rcases hp with hp | hp | hp
              · obtain ⟨e', g1, g2⟩ := h2 p hp
                exact ⟨e', by simp [g1], g2⟩
              · exact ⟨e, by simp, hb, .inl (bit_pow _ _ hp)⟩
              · exact ⟨e, by simp, hb, .inr (by rw [← ha]; exact hp)⟩
          · cases h
theorem prep_spec : ∀ {l : List Oper} {j : Nat} {acc : T Nat} {ds : List Dop} {M0 : Nat → Nat}, prep acc j l = some ds → (∀ i a, acc.get i = some a → i < j ∧ a = M0 i) →
    ∃ M : Nat → Nat, (∀ i, i < j → M i = M0 i) ∧ ds.length = l.length ∧ ∀ idx o, l[idx]? = some o → ds[idx]? = some ⟨j + idx, o, M (j + idx)⟩ ∧ MaskAt M (j + idx) o
  | [], j, acc, ds, M0, h, _ => by cases h; exact ⟨M0, fun _ _ => rfl, rfl, fun idx o ho => by simp at ho⟩
  | o :: l, j, acc, ds, M0, h, hacc => by
    rw [prep] at h
    split at h
    · cases h
    · rename_i s hs
      split at h
      · cases h
      · rename_i ds' hds
        cases h
        obtain ⟨g1, g2⟩ := maskOf_spec (fun i a ha => (hacc i a ha).2) hs
        obtain ⟨M, k1, k2, k3⟩ := prep_spec (M0 := fun i => if i = j then s else M0 i) hds fun i a ha => by
          rw [put_eq, T.get_put] at ha
          split at ha
          · rename_i he; cases ha; exact ⟨by omega, by simp [he]⟩
          · rename_i he
            obtain ⟨h1, h2⟩ := hacc i a ha
            exact ⟨by omega, by simp [he, h2]⟩
        have hMj : M j = s := by rw [k1 j (by omega)]; simp
        have hM : ∀ i, i < j → M i = M0 i := fun i hi => by rw [k1 i (by omega)]; simp; omega
        refine ⟨M, hM, by simp [k2], fun idx o' ho => ?_⟩
        cases idx with
        | zero =>
          simp at ho
          subst ho
          refine ⟨by simp [hMj], g1, fun p hp => ?_⟩
          rw [Nat.add_zero, hMj] at hp
          obtain ⟨e, e1, e2, e3⟩ := g2 p hp
          exact ⟨e, e1, e2, e3.imp id fun h => by rw [hM _ (g1 e e1 e2)]; exact h⟩
        | succ idx =>
          rw [List.getElem?_cons_succ] at ho
          obtain ⟨e1, e2⟩ := k3 idx o' ho
          rw [List.getElem?_cons_succ, e1, show j + (idx + 1) = j + 1 + idx by omega]
          exact ⟨rfl, e2⟩
section
variable {tt : T TypeInfo} {fl : T (List TypeDesc)} {ops : Array Oper}
theorem pairs_spec : ∀ {l : List Dop}, pairsOk tt fl ops l = true → ∀ {i j : Nat} {a b : Dop}, i < j → l[i]? = some a → l[j]? = some b → conf tt fl ops a.o b.o = true → bit b.mask a.i = true
  | [], _, i, j, a, b, _, hi, _, _ => by simp at hi
  | d :: l, h, 0, j + 1, a, b, hij, hi, hj, hc => by
    simp only [pairsOk, Bool.and_eq_true, List.all_eq_true] at h
    simp at hi hj
    subst hi
    have := h.1 b (List.mem_of_getElem? hj)
    simp [hc] at this
    exact this
  | d :: l, h, i + 1, j + 1, a, b, hij, hi, hj, hc => by
    simp only [pairsOk, Bool.and_eq_true] at h
    exact pairs_spec (i := i) (j := j) h.2 (by omega) (by simpa using hi) (by simpa using hj) hc
  | d :: l, h, i, 0, a, b, hij, hi, hj, hc => by omega
theorem hasN_iff (x : Nat) : ∀ (l : List Nat), hasN x l = true ↔ x ∈ l
  | [] => by simp [hasN]
  | y :: l => by
    rw [hasN]
    split
    · rename_i h; have := Nat.eq_of_beq_eq_true h; simp [this]
    · rename_i h
      have : x ≠ y := fun e => by subst e; rw [Nat.beq_refl] at h; cases h
      simp [hasN_iff x l, this]
end
/-! ### The evaluation, step by step -/
section
variable (tt : T TypeInfo) (fl : T (List TypeDesc)) (n : Nat) (ops : Array Oper) (call : CallT)
/-- What operation o, number i, does. -/
def StepAt (F : Nat → Fr) (S : Nat → St) (v : Nat → V) (x pm M : Nat → Nat) (rds : List Rd) (bds : List Bd) (i : Nat) (o : Oper) : Prop :=
  dstOk n o.dst = true ∧ F (i + 1) = putV (dstP o.dst) (v i) (F i) ∧
  x (i + 1) = (match (act tt fl o.op).isAlloc with | true => Nat.succ (x i) | false => x i) ∧
  pm (i + 1) = (match (act tt fl o.op).isLoud with | true => Nat.lor (pm i) (M i) | false => pm i) ∧
  ((act tt fl o.op).isLoud = true → ⟨i, S i, pm i⟩ ∈ bds) ∧
  ((want ops o (F i) = some false ∧ v i = .undef ∧ S (i + 1) = S i) ∨
   (want ops o (F i) = some true ∧ dstep (act tt fl o.op) call (x i) (restr (F i) (paths (looks ops o))) (S i) = some (v i, S (i + 1)) ∧
     ∀ f, act tt fl o.op = .read f → ⟨i, M i, f (restr (F i) (paths (looks ops o))), v i⟩ ∈ rds))
end
section
variable {tt : T TypeInfo} {fl : T (List TypeDesc)} {n : Nat} {ops : Array Oper} {call : CallT}
theorem StepAt.congr {F F' : Nat → Fr} {S S' : Nat → St} {v v' : Nat → V} {x x' pm pm' M : Nat → Nat} {rds rds' : List Rd} {bds bds' : List Bd} {i : Nat} {o : Oper} (h : StepAt tt fl n ops call F S v x pm M rds bds i o)
    (hF : F' i = F i ∧ F' (i + 1) = F (i + 1)) (hS : S' i = S i ∧ S' (i + 1) = S (i + 1)) (hv : v' i = v i) (hx : x' i = x i ∧ x' (i + 1) = x (i + 1)) (hp : pm' i = pm i ∧ pm' (i + 1) = pm (i + 1))
    (hr : ∀ r ∈ rds, r ∈ rds') (hb : ∀ b ∈ bds, b ∈ bds') : StepAt tt fl n ops call F' S' v' x' pm' M rds' bds' i o := by
  obtain ⟨h1, h2, h3, h4, h5, h6⟩ := h
  unfold StepAt
  rw [hF.1, hF.2, hS.1, hS.2, hv, hx.1, hx.2, hp.1, hp.2]
  refine ⟨h1, h2, h3, h4, fun hl => hb _ (h5 hl), h6.imp id fun ⟨g1, g2, g3⟩ => ⟨g1, g2, fun f hf => hr _ (g3 f hf)⟩⟩
theorem passed_spec {M : Nat → Nat} : ∀ {l : List Dop} {i x pm : Nat} {F : Fr} {σ : St} {t : Tl}, (∀ idx d, l[idx]? = some d → d.i = i + idx ∧ d.mask = M (i + idx)) → passed tt fl n ops call l i x pm F σ = some t →
    ∃ (Ff : Nat → Fr) (Sf : Nat → St) (vf : Nat → V) (xf pf : Nat → Nat), Ff i = F ∧ Sf i = σ ∧ xf i = x ∧ pf i = pm ∧ Ff (i + l.length) = t.F ∧ Sf (i + l.length) = t.σ ∧ ⟨i + l.length, Sf (i + l.length), pf (i + l.length)⟩ ∈ t.bds ∧
      ∀ idx d, l[idx]? = some d → StepAt tt fl n ops call Ff Sf vf xf pf M t.rds t.bds (i + idx) d.o
  | [], i, x, pm, F, σ, t, _, h => by
    cases h
    exact ⟨fun _ => F, fun _ => σ, fun _ => .undef, fun _ => x, fun _ => pm, rfl, rfl, rfl, rfl, rfl, rfl, by simp, fun idx d hd => by simp at hd⟩
  | d :: l, i, x, pm, F, σ, t, hl, h => by
    rw [passed] at h
    have hd := hl 0 d rfl
    simp only [Nat.add_zero] at hd
    have hl' : ∀ idx d', l[idx]? = some d' → d'.i = i + 1 + idx ∧ d'.mask = M (i + 1 + idx) := fun idx d' hd' => by
      have := hl (idx + 1) d' (by simpa using hd')
      rw [show i + 1 + idx = i + (idx + 1) by omega]; exact this
    split at h
    · cases h
    · rename_i hdst
      split at h
      · cases h
      · rename_i b hw
        split at h
        · split at h
          · cases h
          · rename_i t' ht'
            cases h
            obtain ⟨Ff, Sf, vf, xf, pf, e1, e2, e3, e4, e5, e6, e7, e8⟩ := passed_spec hl' ht'
            refine ⟨fun j => if j = i then F else Ff j, fun j => if j = i then σ else Sf j, fun j => if j = i then .undef else vf j, fun j => if j = i then x else xf j, fun j => if j = i then pm else pf j,
              by simp, by simp, by simp, by simp, ?_, ?_, ?_, fun idx d' hd' => ?_⟩
            · (simp only [List.length_cons]; rw [if_neg (by omega), show i + (l.length + 1) = i + 1 + l.length by omega]; exact e5)
            · (simp only [List.length_cons]; rw [if_neg (by omega), show i + (l.length + 1) = i + 1 + l.length by omega]; exact e6)
            · have : (⟨i + 1 + l.length, Sf (i + 1 + l.length), pf (i + 1 + l.length)⟩ : Bd) ∈ addBd (act tt fl d.o.op).isLoud i σ pm t'.bds := by
                unfold addBd; split
                · exact List.mem_cons_of_mem _ e7
                · exact e7
              simp only [List.length_cons]
              rw [if_neg (by omega), if_neg (by omega), show i + (l.length + 1) = i + 1 + l.length by omega]
              exact this
            · cases idx with
              | zero =>
                simp at hd'
                subst hd'
                refine ⟨hdst, ?_, ?_, ?_, fun hloud => ?_, .inl ⟨?_, ?_, ?_⟩⟩
                · simp [e1]
                · simp [e3]; rfl
                · simp only [Nat.add_zero, if_true, if_neg (Nat.succ_ne_self i), e4, hd.2]; rfl
                · simp only [Nat.add_zero, if_true, addBd, hloud]; simp
                · simpa using hw
                · simp
                · simp [e2]
              | succ idx =>
                rw [List.getElem?_cons_succ] at hd'
                have := e8 idx d' hd'
                rw [show i + (idx + 1) = i + 1 + idx by omega]
                refine this.congr ⟨?_, ?_⟩ ⟨?_, ?_⟩ ?_ ⟨?_, ?_⟩ ⟨?_, ?_⟩ (fun r hr => hr) (fun b hb => ?_)
                all_goals first
                  | exact if_neg (by omega)
                  | (unfold addBd; split <;> first | exact List.mem_cons_of_mem _ hb | exact hb)
        · split at h
          · cases h
          · rename_i y hy
            split at h
            · cases h
            · rename_i t' ht'
              cases h
              obtain ⟨Ff, Sf, vf, xf, pf, e1, e2, e3, e4, e5, e6, e7, e8⟩ := passed_spec hl' ht'
              have radd : ∀ r ∈ t'.rds, r ∈ addRd (act tt fl d.o.op) d (restr F (paths (looks ops d.o))) y.1 t'.rds := fun r hr => by
                unfold addRd; split <;> first | exact List.mem_cons_of_mem _ hr | exact hr
              have badd : ∀ b ∈ t'.bds, b ∈ addBd (act tt fl d.o.op).isLoud i σ pm t'.bds := fun b hb => by
                unfold addBd; split <;> first | exact List.mem_cons_of_mem _ hb | exact hb
              refine ⟨fun j => if j = i then F else Ff j, fun j => if j = i then σ else Sf j, fun j => if j = i then y.1 else vf j, fun j => if j = i then x else xf j, fun j => if j = i then pm else pf j,
                by simp, by simp, by simp, by simp, ?_, ?_, ?_, fun idx d' hd' => ?_⟩
              · (simp only [List.length_cons]; rw [if_neg (by omega), show i + (l.length + 1) = i + 1 + l.length by omega]; exact e5)
              · (simp only [List.length_cons]; rw [if_neg (by omega), show i + (l.length + 1) = i + 1 + l.length by omega]; exact e6)
              · simp only [List.length_cons]
                rw [if_neg (by omega), if_neg (by omega), show i + (l.length + 1) = i + 1 + l.length by omega]
                exact badd _ e7
              · cases idx with
                | zero =>
                  simp at hd'
                  subst hd'
                  refine ⟨hdst, ?_, ?_, ?_, fun hloud => ?_, .inr ⟨?_, ?_, fun f hf => ?_⟩⟩
                  · simp [e1]
                  · simp [e3]; rfl
                  · simp only [Nat.add_zero, if_true, if_neg (Nat.succ_ne_self i), e4, hd.2]; rfl
                  · simp only [Nat.add_zero, if_true, addBd, hloud]; simp
                  · simpa using hw
                  · simp [e2, hy]
                  · simp only [Nat.add_zero, if_true, addRd, hf]
                    rw [← hd.2, ← hd.1]
                    simp
                | succ idx =>
                  rw [List.getElem?_cons_succ] at hd'
                  have := e8 idx d' hd'
                  rw [show i + (idx + 1) = i + 1 + idx by omega]
                  refine this.congr ⟨?_, ?_⟩ ⟨?_, ?_⟩ ?_ ⟨?_, ?_⟩ ⟨?_, ?_⟩ radd badd
                  all_goals exact if_neg (by omega)
end
end Kv
end Go.Proofs.YtbemdcbglpjmiaaGreatDoor
