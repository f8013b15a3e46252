/- The fast evaluator: code. No program in sight. -/
import Derived.Test.YtbnnfoimkdbjaaaGreatDoorKvK
import Derived.LoopN
namespace Go.Proofs.YtbnnfoimkdbjaaaGreatDoor
open Go.RowKit
namespace Kv
open Ev
set_option linter.unusedVariables false
theorem allNone_ok {h : T B} : ∀ {k x : Nat}, allNone h x k = true → ∀ i, x ≤ i → i < x + k → h.get i = none
  | 0, x, _, i, h1, h2 => by omega
  | k + 1, x, hn, i, h1, h2 => by
    rw [allNone, get_eq] at hn
    split at hn
    · rename_i he
      by_cases hi : i = x
      · rw [hi]; exact he
      · exact allNone_ok (k := k) (x := x + 1) hn i (by omega) (by omega)
    · cases hn
section
variable {Pr : Program} {w0 : World} {n : Nat} {call : CallT} {tt : T TypeInfo} {fl : T (List TypeDesc)}
theorem x_end {x : Nat → Nat} : ∀ {l : List Oper} {i : Nat}, (∀ idx o, l[idx]? = some o → x (i + idx + 1) = (match (act tt fl o.op).isAlloc with | true => Nat.succ (x (i + idx)) | false => x (i + idx))) →
    x (i + l.length) = x i + allocs tt fl l
  | [], i, _ => by simp [allocs]
  | o :: l, i, h => by
    have h0 := h 0 o rfl
    have ih := x_end (x := x) (l := l) (i := i + 1) fun idx o' ho' => by
      have := h (idx + 1) o' (by simpa using ho')
      rw [show i + 1 + idx = i + (idx + 1) by omega]; exact this
    rw [List.length_cons, show i + (l.length + 1) = i + 1 + l.length by omega, ih, allocs]
    simp only [Nat.add_zero] at h0
    rw [h0]
    cases (act tt fl o.op).isAlloc <;> simp only [Nat.succ_eq_add_one] <;> omega
theorem drawn_ok (hmix : Pr.follows .mixedOrders = true) (hact : ActOk Pr w0 tt fl) (hcall : CallOk Pr w0 call) {id : Nat} {ops : Array Oper} (hreg : regOk tt fl ops = true) {m : M} {σ : St} {F : Fr} {a : Go.Act} {w : World} {y : E × Fr × St} {Q : Exit → Go.Act → World → Prop}
    (hF : FR m n F a) (hH : HR w0 m σ w) (h : drawn tt fl n ops (prep .nil 0 ops.toList) (allocs tt fl ops.toList) call F σ = some y)
    (hQ : ∀ m' a' w', Gr m σ w m' y.2.2 w' → FR m' n y.2.1 a' → HR w0 m' y.2.2 w' → Q (exitOf y.1) a' w') : (Code.region id ops true).wp Pr Q a w := by
  unfold drawn at h
  split at h
  · cases h
  · rename_i l hl
    split at h
    · cases h
    · rename_i hnone
      split at h
      · cases h
      · rename_i t ht
        split at h
        · rename_i hchk
          cases h
          unfold regOk at hreg
          rw [hl] at hreg
          simp only at hreg
          obtain ⟨M, _, hlen, hM⟩ := prep_spec (M0 := fun _ => 0) hl (fun i a ha => by rw [T.get_nil] at ha; cases ha)
          have hds : ∀ idx d, l[idx]? = some d → ∃ o, ops[idx]? = some o ∧ d = (⟨idx, o, M idx⟩ : Dop) := fun idx d hd => by
            have hlt : idx < ops.toList.length := by
              rw [← hlen]
              exact (List.getElem?_eq_some_iff.1 hd).1
            have ho : ops.toList[idx]? = some ops.toList[idx] := List.getElem?_eq_getElem hlt
            have := (hM idx _ ho).1
            rw [hd] at this
            simp only [Nat.zero_add] at this
            exact ⟨_, by rw [← Array.getElem?_toList]; exact ho, Option.some.inj this⟩
          obtain ⟨Ff, Sf, vf, xf, pf, e1, e2, e3, e4, e5, e6, e7, e8⟩ := passed_spec (M := M) (fun idx d hd => by
            obtain ⟨o, _, rfl⟩ := hds idx d hd
            exact ⟨(Nat.zero_add _).symm, by rw [Nat.zero_add]⟩) ht
          have hsz : l.length = ops.size := by rw [hlen]; simp
          rw [Nat.zero_add, hsz] at e5 e6 e7
          have hstep : ∀ i o, ops[i]? = some o → StepAt tt fl n ops call Ff Sf vf xf pf M t.rds t.bds i o := fun i o ho => by
            have hd := (hM i o (by simpa using ho)).1
            have := e8 i _ hd
            simpa using this
          have hf : Facts tt fl n ops call Ff Sf vf xf pf M t.rds t.bds := by
            refine ⟨hstep, fun i o ho => ?_, fun i j p q hij hp hq hc => ?_, e7, fun r hr b hb => ?_, e4, by rw [e3]; exact hH.most⟩
            · have := (hM i o (by simpa using ho)).2
              simpa using this
            · have d1 := (hM i p (by simpa using hp)).1
              have d2 := (hM j q (by simpa using hq)).1
              have := pairs_spec hreg hij d1 d2 hc
              simpa using this
            · exact List.all_eq_true.1 (List.all_eq_true.1 hchk r hr) b hb
          have hxe : xf ops.size = σ.next + allocs tt fl ops.toList := by
            have := x_end (tt := tt) (fl := fl) (x := xf) (l := ops.toList) (i := 0) fun idx o ho => by
              have := (hstep idx o (by simpa using ho)).2.2.1
              rw [Nat.zero_add]; exact this
            rw [Nat.zero_add, e3] at this
            simpa using this
          have hL : Lf (Array.replicate ops.size false) = fun _ => false := by
            funext j
            unfold Lf
            by_cases hj : j < ops.size <;> simp [hj]
          have hD := hH.of_world (below_drew w)
          refine wp_region_any hmix ?_
          refine any_ok (m0 := m) (σ0 := σ) (ws := w) hf (by rw [e3]; exact Nat.le_refl _) hact hcall (fun m' a' w' g1 g2 g3 => ?_) ops.size (q := 0) (m := m) (by simp) ?_ ?_
          · rw [e6] at g1 g3
            rw [e5] at g2
            exact hQ m' a' w' g1 g2 g3
          · have : ∀ (L : Nat → Bool) p, cnt L p ≤ p := fun L p => by
              induction p with
              | zero => exact Nat.le_refl _
              | succ p ih => rw [cnt]; split <;> omega
            exact this _ _
          · rw [hL]
            refine ⟨Nat.zero_le _, fun i o ho hl => by simp, ?_, ?_, ?_, ?_, fun i z hi => by omega, (fun i z hi hz hL => by cases hL), fun i z hi hz => ?_, (fun j o hj => by cases hj)⟩
            · rw [e2]; exact HR.room hD (Nat.le_add_right _ _)
            · rw [e2, hxe]; exact Nat.le_refl _
            · rw [e2]; exact Gr.room (Gr.of_world hH (below_drew w)) (Nat.le_add_right _ _)
            · rw [FL_none, e1]; exact hF
            · have h1 := Facts.xlow hf (by rw [e3]; exact Nat.le_refl _ : σ.next ≤ xf 0) hz
              have h2 := (hf.xtop hz).2
              rw [hxe] at h2
              exact ⟨by rw [e2]; exact allNone_ok hnone _ h1 h2, fun _ => hH.fresh _ h1⟩
        · cases h
theorem steps_normal {ops : Array Oper} : ∀ (l : List Oper) {F : Fr} {σ : St} {x : E × Fr × St}, (steps tt fl n ops l).f call F σ = some x → x.1 = .normal
  | [], F, σ, x, h => by cases h; rfl
  | o :: l, F, σ, x, h => by
    have h' : after (step tt fl n ops o) (steps tt fl n ops l) call F σ = some x := h
    unfold after at h'
    split at h'
    · exact steps_normal l h'
    · cases h'
theorem code_ok (hmix : Pr.follows .mixedOrders = true) (hact : ActOk Pr w0 tt fl) (hcall : CallOk Pr w0 call) : ∀ (c : Code) {m : M} {σ : St} {F : Fr} {a : Go.Act} {w : World} {x : E × Fr × St} {Q : Exit → Go.Act → World → Prop},
    codeOk tt fl c = true → FR m n F a → HR w0 m σ w → (code tt fl n c).f call F σ = some x →
    (∀ m' a' w', Gr m σ w m' x.2.2 w' → FR m' n x.2.1 a' → HR w0 m' x.2.2 w' → Q (exitOf x.1) a' w') → c.wp Pr Q a w
  | .skip, m, σ, F, a, w, x, Q, hco, hF, hH, h, hQ => by cases h; exact wp_skip (hQ m a w (Gr.refl hH) hF hH)
  | .label _, m, σ, F, a, w, x, Q, hco, hF, hH, h, hQ => by cases h; exact wp_label (hQ m a w (Gr.refl hH) hF hH)
  | .exit _, m, σ, F, a, w, x, Q, hco, hF, hH, h, hQ => by cases h; exact wp_exit (hQ m a w (Gr.refl hH) hF hH)
  | .ret, m, σ, F, a, w, x, Q, hco, hF, hH, h, hQ => by cases h; exact wp_ret (hQ m a w (Gr.refl hH) hF hH)
  | .region id ops d, m, σ, F, a, w, x, Q, hco, hF, hH, h, hQ => by
    cases d with
    | true => exact drawn_ok hmix hact hcall hco hF hH h hQ
    | false =>
      have h' : (steps tt fl n ops ops.toList).f call F σ = some x := h
      refine wp_region ?_
      have hn := steps_normal _ h'
      have := steps_ok hact hcall (Q := Q) ops.toList 0 (by simp) hF hH h' fun hx m' a' w' e h1 h2 => by
        have := hQ m' a' w' e h1 h2
        rwa [hx] at this
      rwa [Array.length_toList, ← List.range_eq_range'] at this
  | .seq p q, m, σ, F, a, w, x, Q, hco, hF, hH, h, hQ => by
    have hco : (codeOk tt fl p && codeOk tt fl q) = true := hco
    rw [Bool.and_eq_true] at hco
    have h' : seqR (code tt fl n p) (code tt fl n q) call F σ = some x := h
    unfold seqR at h'
    split at h'
    · cases h'
    · rename_i y hy
      refine wp_seq (code_ok hmix hact hcall p hco.1 hF hH hy fun m' a' w' e hF' hH' => ?_)
      split at h'
      · rename_i hn
        rw [hn]
        exact code_ok hmix hact hcall q hco.2 hF' hH' h' fun m'' a'' w'' e' h1 h2 => hQ m'' a'' w'' (e.trans e') h1 h2
      · rename_i hn
        cases h'
        have := hQ m' a' w' e hF' hH'
        cases he : x.1 with
        | normal => exact absurd he hn
        | exit i => rw [he] at this; exact this
        | ret => rw [he] at this; exact this
  | .cond c p q, m, σ, F, a, w, x, Q, hco, hF, hH, h, hQ => by
    have hco : (codeOk tt fl p && codeOk tt fl q) = true := hco
    rw [Bool.and_eq_true] at hco
    have h' : condR (opd c) (code tt fl n p) (code tt fl n q) call F σ = some x := h
    unfold condR at h'
    split at h'
    · rename_i b hb
      have hc : a.eval c = .bool b := asC_ok hb (opd_ok hF hH.glob c)
      split at h'
      · exact wp_cond_true hc (code_ok hmix hact hcall p hco.1 hF hH h' hQ)
      · exact wp_cond_false hc (code_ok hmix hact hcall q hco.2 hF hH h' hQ)
    · cases h'
  | .block id p, m, σ, F, a, w, x, Q, hco, hF, hH, h, hQ => by
    have h' : blockR id (code tt fl n p) call F σ = some x := h
    unfold blockR at h'
    split at h'
    · cases h'
    · rename_i y hy
      refine wp_block (code_ok hmix hact hcall p hco hF hH hy fun m' a' w' e hF' hH' => ?_)
      split at h'
      · rename_i i hi
        split at h'
        · rename_i hb
          cases h'
          have := Nat.eq_of_beq_eq_true hb
          subst this
          rw [hi]
          simpa [exitOf, Exit.inBlock] using hQ m' a' w' e hF' hH'
        · rename_i hb
          cases h'
          have hne : i ≠ id := fun he => by subst he; rw [Nat.beq_refl] at hb; cases hb
          have := hQ m' a' w' e hF' hH'
          rw [hi] at this ⊢
          simpa [exitOf, Exit.inBlock, hne] using this
      · rename_i hn
        cases h'
        have := hQ m' a' w' e hF' hH'
        cases he : x.1 with
        | normal => rw [he] at this; exact this
        | exit i => exact absurd he (hn i)
        | ret => rw [he] at this; exact this
  | .loop p, m, σ, F, a, w, x, Q, hco, hF, hH, h, hQ => by
    have h' : loopR (code tt fl n p) 100000 call F σ = some x := h
    refine wp_loop_rounds 100000 ?_
    generalize 100000 = k at h'
    clear h
    revert m σ F a w hF hH h' hQ
    induction k with
    | zero => intro m σ F a w hF hH hQ h'; cases h'
    | succ k ih =>
      intro m σ F a w hF hH hQ h'
      have h2 : (match (code tt fl n p).f call F σ with
        | none => none
        | some y => match y.1 with
          | .normal => loopR (code tt fl n p) k call y.2.1 y.2.2
          | _ => some y) = some x := h'
      split at h2
      · cases h2
      · rename_i y hy
        refine code_ok hmix hact hcall p hco hF hH hy fun m' a' w' e hF' hH' => ?_
        split at h2
        · rename_i hn
          rw [hn]
          exact ih _ _ _ _ _ hF' hH' (fun m'' a'' w'' e' h1 h2 => hQ m'' a'' w'' (e.trans e') h1 h2) h2
        · rename_i hn
          cases h2
          have := hQ m' a' w' e hF' hH'
          cases he : x.1 with
          | normal => exact absurd he hn
          | exit i => rw [he] at this; exact this
          | ret => rw [he] at this; exact this
  | .rangeFunc .., m, σ, F, a, w, x, Q, hco, hF, hH, h, hQ => by cases h
  | .scope .., m, σ, F, a, w, x, Q, hco, hF, hH, h, hQ => by cases h
  | .goto .., m, σ, F, a, w, x, Q, hco, hF, hH, h, hQ => by cases h
  | .refuse .., m, σ, F, a, w, x, Q, hco, hF, hH, h, hQ => by cases h
end
end Kv
end Go.Proofs.YtbnnfoimkdbjaaaGreatDoor
