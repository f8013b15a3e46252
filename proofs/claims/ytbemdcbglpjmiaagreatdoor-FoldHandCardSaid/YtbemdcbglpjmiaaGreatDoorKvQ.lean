/- The fast evaluator: a drawn region, whole. No program in sight. The fast evaluator: code. No program in sight. -/
import Derived.Test.YtbemdcbglpjmiaaGreatDoorKvJ
import Derived.Orders
import Derived.LoopN
namespace Go.Proofs.YtbemdcbglpjmiaaGreatDoor
open Go.RowKit
namespace Kv
open Ev
set_option linter.unusedVariables false
set_option linter.unusedSimpArgs false
section
variable {Pr : Program} {w0 ws : World} {tt : T TypeInfo} {fl : T (List TypeDesc)} {n : Nat} {ops : Array Oper} {call : CallT} {F : Nat → Fr} {S : Nat → St} {v : Nat → V} {x pm Mk : Nat → Nat} {rds : List Rd} {bds : List Bd}
  {m0 m m' : M} {σ0 : St} {L : Nat → Bool} {q : Nat} {a : Go.Act} {w w' : World} {Q : Exit → Go.Act → World → Prop} {K : Go.Act → World → Prop}
/-- What a loud operation does. -/
theorem loud_ok {o : Oper} {f : Fr → St → Option R} {u : V} {σ σ' : St} {Fx : Fr} (hact : AcOk Pr w0 o (.loud f)) (hcall : CallOk Pr w0 call) {a' : Go.Act} (hF : FR m n Fx a') (he : execOp a'.eval o = execOp a.eval o) (hH : HR w0 m σ w)
    (h : dloud call (f Fx σ) = some (u, σ')) (hK : ∀ m' v' w', Gr m σ w m' σ' w' → HR w0 m' σ' w' → VR m' u v' → K (a.put o.dst v') w') : o.wp Pr a w K Q := by
  unfold dloud at h
  split at h
  · cases h
  · rename_i r hr
    have hg := hact n Fx a' m σ w r hF hH hr
    rw [he] at hg
    unfold Oper.wp
    split at h
    · cases h
      obtain ⟨m', v', w', e, h2, h3, h4⟩ := hg
      rw [h2]
      exact hK m' v' w' e h3 h4
    · cases h
      obtain ⟨m', w', e, h2, h3⟩ := hg
      rw [h2]
      exact hK m' undef w' e h3 rfl
    · rename_i g args σ₁ 
      obtain ⟨rfl, vs, h3, h4⟩ := hg
      rw [h4]
      rcases hcall g args _ u σ' m w vs h hH h3 with ⟨m', v', w', e, h5, h6, h7⟩ | ⟨h5, h6⟩
      · rw [h5]
        exact hK m' v' w' e h6 h7
      · rw [h5]
        refine h6.mono ?_
        rintro _ w' ⟨m', v', rfl, e, h7, h8⟩
        exact hK m' v' w' e h7 h8
variable (hf : Facts tt fl n ops call F S v x pm Mk rds bds) (hx0 : σ0.next ≤ x 0) (hact : ActOk Pr w0 tt fl) (hcall : CallOk Pr w0 call)
include hf hx0 hact hcall
theorem op_ok (h : Inv w0 tt fl n ops F S v x m0 σ0 ws L q m a w) (hb : q = ops.size ∨ ∃ o, ops[q]? = some o ∧ (act tt fl o.op).isLoud = true) {i : Nat} {o : Oper} (hr : Ready ops L i o) (hLk : L ops.size = false)
    (hK : ∀ q' m' a' w', Inv w0 tt fl n ops F S v x m0 σ0 ws (setL L i) q' m' a' w' → K a' w') : wpOp Pr ops Q i K a w := by
  have his : i < ops.size := (Array.getElem?_eq_some_iff.1 hr.1).1
  have hlk : ∀ t ∈ looks ops o, VR m (sv (F i) t) (a.tmps.getD t undef) := fun t ht => Inv.looked hf h hr ht
  have hloud : (act tt fl o.op).isLoud = true → i = q := fun hl => by
    have hge : ¬ i < q := fun hlt => by
      have := (h.pre i o hr.1 hl).2 hlt
      rw [hr.2.1] at this
      cases this
    rcases hb with hb | ⟨oq, hq, hql⟩
    · omega
    · by_cases he : i = q
      · exact he
      · have := hf.before h.cl hr hq (by omega) (conf_of_loud hql hl)
        have := (h.pre q oq hq hql).1 this
        omega
  obtain ⟨_, _, _, _, _, h6⟩ := hf.step i o hr.1
  unfold wpOp
  simp only [hr.1]
  rcases h6 with ⟨hw, hv, hS⟩ | ⟨hw, hd, hrd⟩
  · rw [want_ok hlk hw]
    simp only [Bool.false_eq_true, if_false]
    have hna : ∀ z, ¬ AlAt tt fl ops F i z := fun z ⟨o', f, g1, g2, g3, g4⟩ => by
      rw [hr.1] at g1
      cases g1
      rw [hw] at g3
      cases g3
    cases hl : (act tt fl o.op).isLoud with
    | false => exact hK q m _ w (Inv.quiet hf h hr hl hna (by rw [hv]; rfl))
    | true =>
      obtain rfl := hloud hl
      exact hK (i + 1) m _ w (Inv.loud hf h hr hl (by rw [hS]; exact Gr.refl h.rel) (by rw [hS]; exact h.rel) (by rw [hv]; rfl))
  · rw [want_ok hlk hw]
    simp only [if_true]
    refine .inl ?_
    have hac := hact o
    have hfr := only_fr (n := n) h.fr.size h.fr.defers hlk
    have hsel : (act tt fl o.op) ≠ .bad → ∀ cs b, o.op ≠ .select cs b := fun hne cs b e => hne (by rw [e]; rfl)
    cases hop : act tt fl o.op with
    | bad => rw [hop] at hd; cases hd
    | pure f =>
      rw [hop] at hd hac
      have he := only_exec (ops := ops) (a := a) (hsel (by rw [hop]; intro e; cases e))
      have hna : ∀ z, ¬ AlAt tt fl ops F i z := fun z ⟨o', f, g1, g2, g3, g4⟩ => by
        rw [hr.1] at g1
        cases g1
        rw [hop] at g2
        cases g2
      simp only [dstep] at hd
      split at hd
      · rename_i u hu
        injection hd with hd
        injection hd with h4 h5
        obtain ⟨v', h1, h2⟩ := hac n _ _ m w u hfr h.rel.glob hu
        rw [he] at h1
        unfold Oper.wp
        rw [h1]
        exact hK q m _ w (Inv.quiet hf h hr (by rw [hop]; rfl) hna (by rw [← h4]; exact h2))
      · cases hd
    | read f =>
      have hin := hrd f hop
      rw [hop] at hd hac
      have he := only_exec (ops := ops) (a := a) (hsel (by rw [hop]; intro e; cases e))
      have hna : ∀ z, ¬ AlAt tt fl ops F i z := fun z ⟨o', f, g1, g2, g3, g4⟩ => by
        rw [hr.1] at g1
        cases g1
        rw [hop] at g2
        cases g2
      have hbd : (⟨q, S q, pm q⟩ : Bd) ∈ bds := by
        rcases hb with rfl | ⟨oq, hq, hql⟩
        · exact hf.last
        · exact (hf.step q oq hq).2.2.2.2.1 hql
      have hck := hf.chk _ hin _ hbd
      have n1 : bit (Mk i) q = false := by
        cases hbit : bit (Mk i) q with
        | false => rfl
        | true =>
          have hL := hf.waits h.cl i o hr.1 hr.2.2 q hbit
          rcases hb with rfl | ⟨oq, hq, hql⟩
          · rw [hLk] at hL; cases hL
          · have := (h.pre q oq hq hql).1 hL; omega
      have n2 : bit (pm q) i = false := by
        cases hbit : bit (pm q) i with
        | false => rfl
        | true =>
          obtain ⟨p, op, g1, g2, g3, g4⟩ := hf.pmbit h.hq hbit
          have hL := (h.pre p op g2 g3).2 g1
          have := hf.waits h.cl p op g2 (h.cl p op hL g2) i g4
          rw [hr.2.1] at this
          cases this
      unfold rdOk at hck
      rw [n1, n2] at hck
      simp only [Bool.or_self] at hck
      split at hck
      · rename_i u hu
        have := vSame_eq hck
        subst this
        obtain ⟨v', h1, h2⟩ := hac n _ _ m (S q) w _ hfr h.rel hu
        rw [he] at h1
        unfold Oper.wp
        rw [h1]
        exact hK q m _ w (Inv.quiet hf h hr (by rw [hop]; rfl) hna h2)
      · cases hck
    | alloc f =>
      rw [hop] at hd hac
      have he := only_exec (ops := ops) (a := a) (hsel (by rw [hop]; intro e; cases e))
      simp only [dstep] at hd
      split at hd
      · rename_i z hz
        injection hd with hd
        injection hd with h4 h5
        have hzz : AlAt tt fl ops F i z := ⟨o, f, hr.1, hop, hw, hz⟩
        have hm : m (x i) = none := by
          rcases Nat.lt_or_ge i q with h1 | h1
          · exact (h.bef i z h1 hzz hr.2.1).1
          · exact (h.aft i z h1 hzz).2 hr.2.1
        obtain ⟨v', ob, k, h1, h2⟩ := hac n _ _ m w z hfr h.rel.glob hz
        rw [he] at h1
        obtain ⟨h3, h7⟩ := h2 (m.add (x i) (w.heap.size, k)) (x i) (M.ext_add _ hm) (M.add_same ..)
        unfold Oper.wp
        rw [h1]
        exact hK q _ _ _ (Inv.alloc hf hx0 h hr hzz h3 (by rw [← h4]; exact h7))
      · cases hd
    | loud f =>
      rw [hop] at hd hac
      have he := only_exec (ops := ops) (a := a) (hsel (by rw [hop]; intro e; cases e))
      obtain rfl := hloud (by rw [hop]; rfl)
      have hd' : dloud call (f (restr (F i) (paths (looks ops o))) (S i)) = some (v i, S (i + 1)) := hd
      exact loud_ok hac hcall hfr he h.rel hd' fun m' v' w' e h3 h4 => hK (i + 1) m' _ w' (Inv.loud hf h hr (by rw [hop]; rfl) e h3 h4)
end
/-! ### Whatever the order -/
def Lf (listed : Array Bool) : Nat → Bool := fun j => listed.getD j false
def cnt (L : Nat → Bool) : Nat → Nat
  | 0 => 0
  | p + 1 => cnt L p + (match L p with | true => 0 | false => 1)
theorem cnt_set (L : Nat → Bool) {i : Nat} (hi : L i = false) : ∀ p, cnt (setL L i) p + (if i < p then 1 else 0) = cnt L p
  | 0 => by simp [cnt]
  | p + 1 => by
    have ih := cnt_set L hi p
    rw [cnt, cnt]
    by_cases he : p = i
    · subst he
      rw [setL_same, hi]
      simp only [Nat.lt_irrefl, if_false, Nat.add_zero] at ih
      simp [ih]
    · rw [setL_ne L he]
      by_cases hlt : i < p
      · rw [if_pos hlt] at ih
        rw [if_pos (by omega), ← ih]
        omega
      · rw [if_neg hlt] at ih
        rw [if_neg (by omega), ← ih]
        omega
theorem cnt_zero (L : Nat → Bool) : ∀ p, cnt L p = 0 → ∀ i, i < p → L i = true
  | 0, _, i, hi => by omega
  | p + 1, h, i, hi => by
    rw [cnt] at h
    by_cases he : i = p
    · subst he
      cases hL : L i with
      | true => rfl
      | false => rw [hL] at h; simp at h
    · exact cnt_zero L p (by omega) i (by omega)
theorem Lf_set {listed : Array Bool} {i : Nat} (hi : i < listed.size) : Lf (listed.setIfInBounds i true) = setL (Lf listed) i := by
  funext j
  unfold Lf setL
  by_cases h : j = i
  · subst h; simp [hi]
  · rw [if_neg h]; simp [Array.getElem?_setIfInBounds_ne (Ne.symm h)]
section
variable {Pr : Program} {w0 ws : World} {tt : T TypeInfo} {fl : T (List TypeDesc)} {n : Nat} {ops : Array Oper} {call : CallT} {F : Nat → Fr} {S : Nat → St} {v : Nat → V} {x pm Mk : Nat → Nat} {rds : List Rd} {bds : List Bd}
  {m0 : M} {σ0 : St} {Q : Exit → Go.Act → World → Prop}
  (hf : Facts tt fl n ops call F S v x pm Mk rds bds) (hx0 : σ0.next ≤ x 0) (hact : ActOk Pr w0 tt fl) (hcall : CallOk Pr w0 call)
  (hQ : ∀ m' a' w', Gr m0 σ0 ws m' (S ops.size) w' → FR m' n (F ops.size) a' → HR w0 m' (S ops.size) w' → Q .normal a' w')
include hf hx0 hact hcall hQ
omit hact hcall in
theorem all_done {L : Nat → Bool} {q : Nat} {m : M} {a : Go.Act} {w : World} (h : Inv w0 tt fl n ops F S v x m0 σ0 ws L q m a w) (hall : ∀ i, i < ops.size → L i = true) : Q .normal a w := by
  obtain ⟨q', _, h', hb⟩ := Inv.bound hf hx0 h
  have hq : q' = ops.size := by
    rcases hb with hb | ⟨o, ho, hl⟩
    · exact hb
    · have hlt : q' < ops.size := (Array.getElem?_eq_some_iff.1 ho).1
      have := (h'.pre q' o ho hl).1 (hall q' hlt)
      omega
  subst hq
  refine hQ m a w h'.gr ?_ h'.rel
  have := h'.fr
  rwa [hf.all hall _ (Nat.le_refl _)] at this
omit hx0 hact hcall hQ in
theorem all_of_ready {listed : Array Bool} (hs : listed.size = ops.size) (hr : Region.ready .any ops listed = []) : ∀ i, i < ops.size → Lf listed i = true := by
  intro i
  induction i using Nat.strongRecOn with
  | _ i ih =>
    intro hi
    cases hL : Lf listed i with
    | true => rfl
    | false =>
      have : i ∈ Region.ready .any ops listed := by
        rw [mem_ready]
        refine ⟨?_, ops[i], Array.getElem?_eq_getElem hi, fun e he hb => ?_⟩
        · unfold Lf at hL
          have : i < listed.size := by omega
          simp [this] at hL ⊢
          exact hL
        · have hlt := (hf.mask i ops[i] (Array.getElem?_eq_getElem hi)).1 e (by simpa using he) hb
          exact ih e.on hlt (by omega)
      rw [hr] at this
      cases this
theorem any_ok : ∀ (fuel : Nat) {listed : Array Bool} {q : Nat} {m : M} {a : Go.Act} {w : World}, listed.size = ops.size → cnt (Lf listed) ops.size ≤ fuel → Inv w0 tt fl n ops F S v x m0 σ0 ws (Lf listed) q m a w →
    wpAny Pr .any ops Q fuel listed a w
  | 0, listed, q, m, a, w, hs, hc, h => by
    have hall := cnt_zero (Lf listed) ops.size (by omega)
    refine ⟨?_, all_done hf hx0 hQ h hall⟩
    cases hr : Region.ready .any ops listed with
    | nil => rfl
    | cons i l =>
      have hi : i ∈ Region.ready .any ops listed := by rw [hr]; simp
      obtain ⟨h1, o, h2, _⟩ := mem_ready.1 hi
      have hlt : i < ops.size := (Array.getElem?_eq_some_iff.1 h2).1
      have := hall i hlt
      unfold Lf at this
      have hlt' : i < listed.size := by omega
      simp [hlt'] at this h1
      rw [this] at h1
      cases h1
  | fuel + 1, listed, q, m, a, w, hs, hc, h => by
    refine ⟨fun hr => all_done hf hx0 hQ h (all_of_ready hf hs hr), fun i hi => ?_⟩
    obtain ⟨h1, o, h2, h3⟩ := mem_ready.1 hi
    have hlt : i < ops.size := (Array.getElem?_eq_some_iff.1 h2).1
    have hlt' : i < listed.size := by omega
    have hL : Lf listed i = false := by
      unfold Lf
      simp [hlt'] at h1 ⊢
      exact h1
    have hr : Ready ops (Lf listed) i o := ⟨h2, hL, fun e he hb => h3 e (by simpa using he) hb⟩
    obtain ⟨q', _, h', hb⟩ := Inv.bound hf hx0 h
    refine op_ok hf hx0 hact hcall h' hb hr (by unfold Lf; simp [hs]) fun q2 m2 a2 w2 g => ?_
    refine any_ok fuel (by simpa using hs) ?_ (q := q2) (m := m2) (by rw [Lf_set hlt']; exact g)
    rw [Lf_set hlt']
    have := cnt_set (Lf listed) hL ops.size
    rw [if_pos hlt] at this
    omega
end
end Kv
end Go.Proofs.YtbemdcbglpjmiaaGreatDoor
namespace Go.Proofs.YtbemdcbglpjmiaaGreatDoor
open Go.RowKit
namespace Kv
open Ev
set_option linter.unusedVariables false
theorem allNone_ok {h : T B} : ∀ {k x : Nat}, allNone h x k = true → ∀ i, x ≤ i → i < x + k → h.get i = none
  | 0, x, _, i, h1, h2 => by omega
  | k + 1, x, hn, i, h1, h2 => by
    rw [allNone, get_eq] at hn
    split at hn
    · rename_i he
      by_cases hi : i = x
      · rw [hi]; exact he
      · exact allNone_ok (k := k) (x := x + 1) hn i (by omega) (by omega)
    · cases hn
section
variable {Pr : Program} {w0 : World} {n : Nat} {call : CallT} {tt : T TypeInfo} {fl : T (List TypeDesc)}
theorem x_end {x : Nat → Nat} : ∀ {l : List Oper} {i : Nat}, (∀ idx o, l[idx]? = some o → x (i + idx + 1) = (match (act tt fl o.op).isAlloc with | true => Nat.succ (x (i + idx)) | false => x (i + idx))) →
    x (i + l.length) = x i + allocs tt fl l
  | [], i, _ => by simp [allocs]
  | o :: l, i, h => by
    have h0 := h 0 o rfl
    have ih := x_end (x := x) (l := l) (i := i + 1) fun idx o' ho' => by
      have := h (idx + 1) o' (by simpa using ho')
      rw [show i + 1 + idx = i + (idx + 1) by omega]; exact this
    rw [List.length_cons, show i + (l.length + 1) = i + 1 + l.length by omega, ih, allocs]
    simp only [Nat.add_zero] at h0
    rw [h0]
    cases (act tt fl o.op).isAlloc <;> simp only [Nat.succ_eq_add_one] <;> omega
theorem drawn_ok (hmix : Pr.follows .mixedOrders = true) (hact : ActOk Pr w0 tt fl) (hcall : CallOk Pr w0 call) {id : Nat} {ops : Array Oper} (hreg : regOk tt fl ops = true) {m : M} {σ : St} {F : Fr} {a : Go.Act} {w : World} {y : E × Fr × St} {Q : Exit → Go.Act → World → Prop}
    (hF : FR m n F a) (hH : HR w0 m σ w) (h : drawn tt fl n ops (prep .nil 0 ops.toList) (allocs tt fl ops.toList) call F σ = some y)
    (hQ : ∀ m' a' w', Gr m σ w m' y.2.2 w' → FR m' n y.2.1 a' → HR w0 m' y.2.2 w' → Q (exitOf y.1) a' w') : (Code.region id ops true).wp Pr Q a w := by
  unfold drawn at h
  split at h
  · cases h
  · rename_i l hl
    split at h
    · cases h
    · rename_i hnone
      split at h
      · cases h
      · rename_i t ht
        split at h
        · rename_i hchk
          cases h
          unfold regOk at hreg
          rw [hl] at hreg
          simp only at hreg
          obtain ⟨M, _, hlen, hM⟩ := prep_spec (M0 := fun _ => 0) hl (fun i a ha => by rw [T.get_nil] at ha; cases ha)
          have hds : ∀ idx d, l[idx]? = some d → ∃ o, ops[idx]? = some o ∧ d = (⟨idx, o, M idx⟩ : Dop) := fun idx d hd => by
            have hlt : idx < ops.toList.length := by
              rw [← hlen]
              exact (List.getElem?_eq_some_iff.1 hd).1
            have ho : ops.toList[idx]? = some ops.toList[idx] := List.getElem?_eq_getElem hlt
            have := (hM idx _ ho).1
            rw [hd] at this
            simp only [Nat.zero_add] at this
            exact ⟨_, by rw [← Array.getElem?_toList]; exact ho, Option.some.inj this⟩
          obtain ⟨Ff, Sf, vf, xf, pf, e1, e2, e3, e4, e5, e6, e7, e8⟩ := passed_spec (M := M) (fun idx d hd => by
            obtain ⟨o, _, rfl⟩ := hds idx d hd
            exact ⟨(Nat.zero_add _).symm, by rw [Nat.zero_add]⟩) ht
          have hsz : l.length = ops.size := by rw [hlen]; simp
          rw [Nat.zero_add, hsz] at e5 e6 e7
          have hstep : ∀ i o, ops[i]? = some o → StepAt tt fl n ops call Ff Sf vf xf pf M t.rds t.bds i o := fun i o ho => by
            have hd := (hM i o (by simpa using ho)).1
            have := e8 i _ hd
            simpa using this
          have hf : Facts tt fl n ops call Ff Sf vf xf pf M t.rds t.bds := by
            refine ⟨hstep, fun i o ho => ?_, fun i j p q hij hp hq hc => ?_, e7, fun r hr b hb => ?_, e4, by rw [e3]; exact hH.most⟩
            · have := (hM i o (by simpa using ho)).2
              simpa using this
            · have d1 := (hM i p (by simpa using hp)).1
              have d2 := (hM j q (by simpa using hq)).1
              have := pairs_spec hreg hij d1 d2 hc
              simpa using this
            · exact List.all_eq_true.1 (List.all_eq_true.1 hchk r hr) b hb
          have hxe : xf ops.size = σ.next + allocs tt fl ops.toList := by
            have := x_end (tt := tt) (fl := fl) (x := xf) (l := ops.toList) (i := 0) fun idx o ho => by
              have := (hstep idx o (by simpa using ho)).2.2.1
              rw [Nat.zero_add]; exact this
            rw [Nat.zero_add, e3] at this
            simpa using this
          have hL : Lf (Array.replicate ops.size false) = fun _ => false := by
            funext j
            unfold Lf
            by_cases hj : j < ops.size <;> simp [hj]
          have hD := hH.of_world (below_drew w)
          refine wp_region_any hmix ?_
          refine any_ok (m0 := m) (σ0 := σ) (ws := w) hf (by rw [e3]; exact Nat.le_refl _) hact hcall (fun m' a' w' g1 g2 g3 => ?_) ops.size (q := 0) (m := m) (by simp) ?_ ?_
          · rw [e6] at g1 g3
            rw [e5] at g2
            exact hQ m' a' w' g1 g2 g3
          · have : ∀ (L : Nat → Bool) p, cnt L p ≤ p := fun L p => by
              induction p with
              | zero => exact Nat.le_refl _
              | succ p ih => rw [cnt]; split <;> omega
            exact this _ _
          · rw [hL]
            refine ⟨Nat.zero_le _, fun i o ho hl => by simp, ?_, ?_, ?_, ?_, fun i z hi => by omega, (fun i z hi hz hL => by cases hL), fun i z hi hz => ?_, (fun j o hj => by cases hj)⟩
            · rw [e2]; exact HR.room hD (Nat.le_add_right _ _)
            · rw [e2, hxe]; exact Nat.le_refl _
            · rw [e2]; exact Gr.room (Gr.of_world hH (below_drew w)) (Nat.le_add_right _ _)
            · rw [FL_none, e1]; exact hF
            · have h1 := Facts.xlow hf (by rw [e3]; exact Nat.le_refl _ : σ.next ≤ xf 0) hz
              have h2 := (hf.xtop hz).2
              rw [hxe] at h2
              exact ⟨by rw [e2]; exact allNone_ok hnone _ h1 h2, fun _ => hH.fresh _ h1⟩
        · cases h
theorem steps_normal {ops : Array Oper} : ∀ (l : List Oper) {F : Fr} {σ : St} {x : E × Fr × St}, (steps tt fl n ops l).f call F σ = some x → x.1 = .normal
  | [], F, σ, x, h => by cases h; rfl
  | o :: l, F, σ, x, h => by
    have h' : after (step tt fl n ops o) (steps tt fl n ops l) call F σ = some x := h
    unfold after at h'
    split at h'
    · exact steps_normal l h'
    · cases h'
theorem code_ok (hmix : Pr.follows .mixedOrders = true) (hact : ActOk Pr w0 tt fl) (hcall : CallOk Pr w0 call) : ∀ (c : Code) {m : M} {σ : St} {F : Fr} {a : Go.Act} {w : World} {x : E × Fr × St} {Q : Exit → Go.Act → World → Prop},
    codeOk tt fl c = true → FR m n F a → HR w0 m σ w → (code tt fl n c).f call F σ = some x →
    (∀ m' a' w', Gr m σ w m' x.2.2 w' → FR m' n x.2.1 a' → HR w0 m' x.2.2 w' → Q (exitOf x.1) a' w') → c.wp Pr Q a w
  | .skip, m, σ, F, a, w, x, Q, hco, hF, hH, h, hQ => by cases h; exact wp_skip (hQ m a w (Gr.refl hH) hF hH)
  | .label _, m, σ, F, a, w, x, Q, hco, hF, hH, h, hQ => by cases h; exact wp_label (hQ m a w (Gr.refl hH) hF hH)
  | .exit _, m, σ, F, a, w, x, Q, hco, hF, hH, h, hQ => by cases h; exact wp_exit (hQ m a w (Gr.refl hH) hF hH)
  | .ret, m, σ, F, a, w, x, Q, hco, hF, hH, h, hQ => by cases h; exact wp_ret (hQ m a w (Gr.refl hH) hF hH)
  | .region id ops d, m, σ, F, a, w, x, Q, hco, hF, hH, h, hQ => by
    cases d with
    | true => exact drawn_ok hmix hact hcall hco hF hH h hQ
    | false =>
      have h' : (steps tt fl n ops ops.toList).f call F σ = some x := h
      refine wp_region ?_
      have hn := steps_normal _ h'
      have := steps_ok hact hcall (Q := Q) ops.toList 0 (by simp) hF hH h' fun hx m' a' w' e h1 h2 => by
        have := hQ m' a' w' e h1 h2
        rwa [hx] at this
      rwa [Array.length_toList, ← List.range_eq_range'] at this
  | .seq p q, m, σ, F, a, w, x, Q, hco, hF, hH, h, hQ => by
    have hco : (codeOk tt fl p && codeOk tt fl q) = true := hco
    rw [Bool.and_eq_true] at hco
    have h' : seqR (code tt fl n p) (code tt fl n q) call F σ = some x := h
    unfold seqR at h'
    split at h'
    · cases h'
    · rename_i y hy
      refine wp_seq (code_ok hmix hact hcall p hco.1 hF hH hy fun m' a' w' e hF' hH' => ?_)
      split at h'
      · rename_i hn
        rw [hn]
        exact code_ok hmix hact hcall q hco.2 hF' hH' h' fun m'' a'' w'' e' h1 h2 => hQ m'' a'' w'' (e.trans e') h1 h2
      · rename_i hn
        cases h'
        have := hQ m' a' w' e hF' hH'
        cases he : x.1 with
        | normal => exact absurd he hn
        | exit i => rw [he] at this; exact this
        | ret => rw [he] at this; exact this
  | .cond c p q, m, σ, F, a, w, x, Q, hco, hF, hH, h, hQ => by
    have hco : (codeOk tt fl p && codeOk tt fl q) = true := hco
    rw [Bool.and_eq_true] at hco
    have h' : condR (opd c) (code tt fl n p) (code tt fl n q) call F σ = some x := h
    unfold condR at h'
    split at h'
    · rename_i b hb
      have hc : a.eval c = .bool b := asC_ok hb (opd_ok hF hH.glob c)
      split at h'
      · exact wp_cond_true hc (code_ok hmix hact hcall p hco.1 hF hH h' hQ)
      · exact wp_cond_false hc (code_ok hmix hact hcall q hco.2 hF hH h' hQ)
    · cases h'
  | .block id p, m, σ, F, a, w, x, Q, hco, hF, hH, h, hQ => by
    have h' : blockR id (code tt fl n p) call F σ = some x := h
    unfold blockR at h'
    split at h'
    · cases h'
    · rename_i y hy
      refine wp_block (code_ok hmix hact hcall p hco hF hH hy fun m' a' w' e hF' hH' => ?_)
      split at h'
      · rename_i i hi
        split at h'
        · rename_i hb
          cases h'
          have := Nat.eq_of_beq_eq_true hb
          subst this
          rw [hi]
          simpa [exitOf, Exit.inBlock] using hQ m' a' w' e hF' hH'
        · rename_i hb
          cases h'
          have hne : i ≠ id := fun he => by subst he; rw [Nat.beq_refl] at hb; cases hb
          have := hQ m' a' w' e hF' hH'
          rw [hi] at this ⊢
          simpa [exitOf, Exit.inBlock, hne] using this
      · rename_i hn
        cases h'
        have := hQ m' a' w' e hF' hH'
        cases he : x.1 with
        | normal => rw [he] at this; exact this
        | exit i => exact absurd he (hn i)
        | ret => rw [he] at this; exact this
  | .loop p, m, σ, F, a, w, x, Q, hco, hF, hH, h, hQ => by
    have h' : loopR (code tt fl n p) 100000 call F σ = some x := h
    refine wp_loop_rounds 100000 ?_
    generalize 100000 = k at h'
    clear h
    revert m σ F a w hF hH h' hQ
    induction k with
    | zero => intro m σ F a w hF hH hQ h'; cases h'
    | succ k ih =>
      intro m σ F a w hF hH hQ h'
      have h2 : (match (code tt fl n p).f call F σ with
        | none => none
        | some y => match y.1 with
          | .normal => loopR (code tt fl n p) k call y.2.1 y.2.2
          | _ => some y) = some x := h'
      split at h2
      · cases h2
      · rename_i y hy
        refine code_ok hmix hact hcall p hco hF hH hy fun m' a' w' e hF' hH' => ?_
        split at h2
        · rename_i hn
          rw [hn]
          exact ih _ _ _ _ _ hF' hH' (fun m'' a'' w'' e' h1 h2 => hQ m'' a'' w'' (e.trans e') h1 h2) h2
        · rename_i hn
          cases h2
          have := hQ m' a' w' e hF' hH'
          cases he : x.1 with
          | normal => exact absurd he hn
          | exit i => rw [he] at this; exact this
          | ret => rw [he] at this; exact this
  | .rangeFunc .., m, σ, F, a, w, x, Q, hco, hF, hH, h, hQ => by cases h
  | .scope .., m, σ, F, a, w, x, Q, hco, hF, hH, h, hQ => by cases h
  | .goto .., m, σ, F, a, w, x, Q, hco, hF, hH, h, hQ => by cases h
  | .refuse .., m, σ, F, a, w, x, Q, hco, hF, hH, h, hQ => by cases h
end
end Kv
end Go.Proofs.YtbemdcbglpjmiaaGreatDoor
