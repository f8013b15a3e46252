/- The fast evaluator: a drawn region, whole. No program in sight. -/
import Derived.Test.YtbnnfoimkdbjaaaGreatDoorKvJ
import Derived.Orders
namespace Go.Proofs.YtbnnfoimkdbjaaaGreatDoor
open Go.RowKit
namespace Kv
open Ev
set_option linter.unusedVariables false
set_option linter.unusedSimpArgs false
section
variable {Pr : Program} {w0 ws : World} {tt : T TypeInfo} {fl : T (List TypeDesc)} {n : Nat} {ops : Array Oper} {call : CallT} {F : Nat → Fr} {S : Nat → St} {v : Nat → V} {x pm Mk : Nat → Nat} {rds : List Rd} {bds : List Bd}
  {m0 m m' : M} {σ0 : St} {L : Nat → Bool} {q : Nat} {a : Go.Act} {w w' : World} {Q : Exit → Go.Act → World → Prop} {K : Go.Act → World → Prop}
/-- What a loud operation does. -/
theorem loud_ok {o : Oper} {f : Fr → St → Option R} {u : V} {σ σ' : St} {Fx : Fr} (hact : AcOk Pr w0 o (.loud f)) (hcall : CallOk Pr w0 call) {a' : Go.Act} (hF : FR m n Fx a') (he : execOp a'.eval o = execOp a.eval o) (hH : HR w0 m σ w)
    (h : dloud call (f Fx σ) = some (u, σ')) (hK : ∀ m' v' w', Gr m σ w m' σ' w' → HR w0 m' σ' w' → VR m' u v' → K (a.put o.dst v') w') : o.wp Pr a w K Q := by
  unfold dloud at h
  split at h
  · cases h
  · rename_i r hr
    have hg := hact n Fx a' m σ w r hF hH hr
    rw [he] at hg
    unfold Oper.wp
    split at h
    · cases h
      obtain ⟨m', v', w', e, h2, h3, h4⟩ := hg
      rw [h2]
      exact hK m' v' w' e h3 h4
    · cases h
      obtain ⟨m', w', e, h2, h3⟩ := hg
      rw [h2]
      exact hK m' undef w' e h3 rfl
    · rename_i g args σ₁ 
      obtain ⟨rfl, vs, h3, h4⟩ := hg
      rw [h4]
      rcases hcall g args _ u σ' m w vs h hH h3 with ⟨m', v', w', e, h5, h6, h7⟩ | ⟨h5, h6⟩
      · rw [h5]
        exact hK m' v' w' e h6 h7
      · rw [h5]
        refine h6.mono ?_
        rintro _ w' ⟨m', v', rfl, e, h7, h8⟩
        exact hK m' v' w' e h7 h8
variable (hf : Facts tt fl n ops call F S v x pm Mk rds bds) (hx0 : σ0.next ≤ x 0) (hact : ActOk Pr w0 tt fl) (hcall : CallOk Pr w0 call)
include hf hx0 hact hcall
theorem op_ok (h : Inv w0 tt fl n ops F S v x m0 σ0 ws L q m a w) (hb : q = ops.size ∨ ∃ o, ops[q]? = some o ∧ (act tt fl o.op).isLoud = true) {i : Nat} {o : Oper} (hr : Ready ops L i o) (hLk : L ops.size = false)
    (hK : ∀ q' m' a' w', Inv w0 tt fl n ops F S v x m0 σ0 ws (setL L i) q' m' a' w' → K a' w') : wpOp Pr ops Q i K a w := by
  have his : i < ops.size := (Array.getElem?_eq_some_iff.1 hr.1).1
  have hlk : ∀ t ∈ looks ops o, VR m (sv (F i) t) (a.tmps.getD t undef) := fun t ht => Inv.looked hf h hr ht
  have hloud : (act tt fl o.op).isLoud = true → i = q := fun hl => by
    have hge : ¬ i < q := fun hlt => by
      have := (h.pre i o hr.1 hl).2 hlt
      rw [hr.2.1] at this
      cases this
    rcases hb with hb | ⟨oq, hq, hql⟩
    · omega
    · by_cases he : i = q
      · exact he
      · have := hf.before h.cl hr hq (by omega) (conf_of_loud hql hl)
        have := (h.pre q oq hq hql).1 this
        omega
  obtain ⟨_, _, _, _, _, h6⟩ := hf.step i o hr.1
  unfold wpOp
  simp only [hr.1]
  rcases h6 with ⟨hw, hv, hS⟩ | ⟨hw, hd, hrd⟩
  · rw [want_ok hlk hw]
    simp only [Bool.false_eq_true, if_false]
    have hna : ∀ z, ¬ AlAt tt fl ops F i z := fun z ⟨o', f, g1, g2, g3, g4⟩ => by
      rw [hr.1] at g1
      cases g1
      rw [hw] at g3
      cases g3
    cases hl : (act tt fl o.op).isLoud with
    | false => exact hK q m _ w (Inv.quiet hf h hr hl hna (by rw [hv]; rfl))
    | true =>
      obtain rfl := hloud hl
      exact hK (i + 1) m _ w (Inv.loud hf h hr hl (by rw [hS]; exact Gr.refl h.rel) (by rw [hS]; exact h.rel) (by rw [hv]; rfl))
  · rw [want_ok hlk hw]
    simp only [if_true]
    refine .inl ?_
    have hac := hact o
    have hfr := only_fr (n := n) h.fr.size h.fr.defers hlk
    have hsel : (act tt fl o.op) ≠ .bad → ∀ cs b, o.op ≠ .select cs b := fun hne cs b e => hne (by rw [e]; rfl)
    cases hop : act tt fl o.op with
    | bad => rw [hop] at hd; cases hd
    | pure f =>
      rw [hop] at hd hac
      have he := only_exec (ops := ops) (a := a) (hsel (by rw [hop]; intro e; cases e))
      have hna : ∀ z, ¬ AlAt tt fl ops F i z := fun z ⟨o', f, g1, g2, g3, g4⟩ => by
        rw [hr.1] at g1
        cases g1
        rw [hop] at g2
        cases g2
      simp only [dstep] at hd
      split at hd
      · rename_i u hu
        injection hd with hd
        injection hd with h4 h5
        obtain ⟨v', h1, h2⟩ := hac n _ _ m w u hfr h.rel.glob hu
        rw [he] at h1
        unfold Oper.wp
        rw [h1]
        exact hK q m _ w (Inv.quiet hf h hr (by rw [hop]; rfl) hna (by rw [← h4]; exact h2))
      · cases hd
    | read f =>
      have hin := hrd f hop
      rw [hop] at hd hac
      have he := only_exec (ops := ops) (a := a) (hsel (by rw [hop]; intro e; cases e))
      have hna : ∀ z, ¬ AlAt tt fl ops F i z := fun z ⟨o', f, g1, g2, g3, g4⟩ => by
        rw [hr.1] at g1
        cases g1
        rw [hop] at g2
        cases g2
      have hbd : (⟨q, S q, pm q⟩ : Bd) ∈ bds := by
        rcases hb with rfl | ⟨oq, hq, hql⟩
        · exact hf.last
        · exact (hf.step q oq hq).2.2.2.2.1 hql
      have hck := hf.chk _ hin _ hbd
      have n1 : bit (Mk i) q = false := by
        cases hbit : bit (Mk i) q with
        | false => rfl
        | true =>
          have hL := hf.waits h.cl i o hr.1 hr.2.2 q hbit
          rcases hb with rfl | ⟨oq, hq, hql⟩
          · rw [hLk] at hL; cases hL
          · have := (h.pre q oq hq hql).1 hL; omega
      have n2 : bit (pm q) i = false := by
        cases hbit : bit (pm q) i with
        | false => rfl
        | true =>
          obtain ⟨p, op, g1, g2, g3, g4⟩ := hf.pmbit h.hq hbit
          have hL := (h.pre p op g2 g3).2 g1
          have := hf.waits h.cl p op g2 (h.cl p op hL g2) i g4
          rw [hr.2.1] at this
          cases this
      unfold rdOk at hck
      rw [n1, n2] at hck
      simp only [Bool.or_self] at hck
      split at hck
      · rename_i u hu
        have := vSame_eq hck
        subst this
        obtain ⟨v', h1, h2⟩ := hac n _ _ m (S q) w _ hfr h.rel hu
        rw [he] at h1
        unfold Oper.wp
        rw [h1]
        exact hK q m _ w (Inv.quiet hf h hr (by rw [hop]; rfl) hna h2)
      · cases hck
    | alloc f =>
      rw [hop] at hd hac
      have he := only_exec (ops := ops) (a := a) (hsel (by rw [hop]; intro e; cases e))
      simp only [dstep] at hd
      split at hd
      · rename_i z hz
        injection hd with hd
        injection hd with h4 h5
        have hzz : AlAt tt fl ops F i z := ⟨o, f, hr.1, hop, hw, hz⟩
        have hm : m (x i) = none := by
          rcases Nat.lt_or_ge i q with h1 | h1
          · exact (h.bef i z h1 hzz hr.2.1).1
          · exact (h.aft i z h1 hzz).2 hr.2.1
        obtain ⟨v', ob, k, h1, h2⟩ := hac n _ _ m w z hfr h.rel.glob hz
        rw [he] at h1
        obtain ⟨h3, h7⟩ := h2 (m.add (x i) (w.heap.size, k)) (x i) (M.ext_add _ hm) (M.add_same ..)
        unfold Oper.wp
        rw [h1]
        exact hK q _ _ _ (Inv.alloc hf hx0 h hr hzz h3 (by rw [← h4]; exact h7))
      · cases hd
    | loud f =>
      rw [hop] at hd hac
      have he := only_exec (ops := ops) (a := a) (hsel (by rw [hop]; intro e; cases e))
      obtain rfl := hloud (by rw [hop]; rfl)
      have hd' : dloud call (f (restr (F i) (paths (looks ops o))) (S i)) = some (v i, S (i + 1)) := hd
      exact loud_ok hac hcall hfr he h.rel hd' fun m' v' w' e h3 h4 => hK (i + 1) m' _ w' (Inv.loud hf h hr (by rw [hop]; rfl) e h3 h4)
end
/-! ### Whatever the order -/
def Lf (listed : Array Bool) : Nat → Bool := fun j => listed.getD j false
def cnt (L : Nat → Bool) : Nat → Nat
  | 0 => 0
  | p + 1 => cnt L p + (match L p with | true => 0 | false => 1)
theorem cnt_set (L : Nat → Bool) {i : Nat} (hi : L i = false) : ∀ p, cnt (setL L i) p + (if i < p then 1 else 0) = cnt L p
  | 0 => by simp [cnt]
  | p + 1 => by
    have ih := cnt_set L hi p
    rw [cnt, cnt]
    by_cases he : p = i
    · subst he
      rw [setL_same, hi]
      simp only [Nat.lt_irrefl, if_false, Nat.add_zero] at ih
      simp [ih]
    · rw [setL_ne L he]
      by_cases hlt : i < p
      · rw [if_pos hlt] at ih
        rw [if_pos (by omega), ← ih]
        omega
      · rw [if_neg hlt] at ih
        rw [if_neg (by omega), ← ih]
        omega
theorem cnt_zero (L : Nat → Bool) : ∀ p, cnt L p = 0 → ∀ i, i < p → L i = true
  | 0, _, i, hi => by omega
  | p + 1, h, i, hi => by
    rw [cnt] at h
    by_cases he : i = p
    · subst he
      cases hL : L i with
      | true => rfl
      | false => rw [hL] at h; simp at h
    · exact cnt_zero L p (by omega) i (by omega)
theorem Lf_set {listed : Array Bool} {i : Nat} (hi : i < listed.size) : Lf (listed.setIfInBounds i true) = setL (Lf listed) i := by
  funext j
  unfold Lf setL
  by_cases h : j = i
  · subst h; simp [hi]
  · rw [if_neg h]; simp [Array.getElem?_setIfInBounds_ne (Ne.symm h)]
section
variable {Pr : Program} {w0 ws : World} {tt : T TypeInfo} {fl : T (List TypeDesc)} {n : Nat} {ops : Array Oper} {call : CallT} {F : Nat → Fr} {S : Nat → St} {v : Nat → V} {x pm Mk : Nat → Nat} {rds : List Rd} {bds : List Bd}
  {m0 : M} {σ0 : St} {Q : Exit → Go.Act → World → Prop}
  (hf : Facts tt fl n ops call F S v x pm Mk rds bds) (hx0 : σ0.next ≤ x 0) (hact : ActOk Pr w0 tt fl) (hcall : CallOk Pr w0 call)
  (hQ : ∀ m' a' w', Gr m0 σ0 ws m' (S ops.size) w' → FR m' n (F ops.size) a' → HR w0 m' (S ops.size) w' → Q .normal a' w')
include hf hx0 hact hcall hQ
omit hact hcall in
theorem all_done {L : Nat → Bool} {q : Nat} {m : M} {a : Go.Act} {w : World} (h : Inv w0 tt fl n ops F S v x m0 σ0 ws L q m a w) (hall : ∀ i, i < ops.size → L i = true) : Q .normal a w := by
  obtain ⟨q', _, h', hb⟩ := Inv.bound hf hx0 h
  have hq : q' = ops.size := by
    rcases hb with hb | ⟨o, ho, hl⟩
    · exact hb
    · have hlt : q' < ops.size := (Array.getElem?_eq_some_iff.1 ho).1
      have := (h'.pre q' o ho hl).1 (hall q' hlt)
      omega
  subst hq
  refine hQ m a w h'.gr ?_ h'.rel
  have := h'.fr
  rwa [hf.all hall _ (Nat.le_refl _)] at this
omit hx0 hact hcall hQ in
theorem all_of_ready {listed : Array Bool} (hs : listed.size = ops.size) (hr : Region.ready .any ops listed = []) : ∀ i, i < ops.size → Lf listed i = true := by
  intro i
  induction i using Nat.strongRecOn with
  | _ i ih =>
    intro hi
    cases hL : Lf listed i with
    | true => rfl
    | false =>
      have : i ∈ Region.ready .any ops listed := by
        rw [mem_ready]
        refine ⟨?_, ops[i], Array.getElem?_eq_getElem hi, fun e he hb => ?_⟩
        · unfold Lf at hL
          have : i < listed.size := by omega
          simp [this] at hL ⊢
          exact hL
        · have hlt := (hf.mask i ops[i] (Array.getElem?_eq_getElem hi)).1 e (by simpa using he) hb
          exact ih e.on hlt (by omega)
      rw [hr] at this
      cases this
theorem any_ok : ∀ (fuel : Nat) {listed : Array Bool} {q : Nat} {m : M} {a : Go.Act} {w : World}, listed.size = ops.size → cnt (Lf listed) ops.size ≤ fuel → Inv w0 tt fl n ops F S v x m0 σ0 ws (Lf listed) q m a w →
    wpAny Pr .any ops Q fuel listed a w
  | 0, listed, q, m, a, w, hs, hc, h => by
    have hall := cnt_zero (Lf listed) ops.size (by omega)
    refine ⟨?_, all_done hf hx0 hQ h hall⟩
    cases hr : Region.ready .any ops listed with
    | nil => rfl
    | cons i l =>
      have hi : i ∈ Region.ready .any ops listed := by rw [hr]; simp
      obtain ⟨h1, o, h2, _⟩ := mem_ready.1 hi
      have hlt : i < ops.size := (Array.getElem?_eq_some_iff.1 h2).1
      have := hall i hlt
      unfold Lf at this
      have hlt' : i < listed.size := by omega
      simp [hlt'] at this h1
      rw [this] at h1
      cases h1
  | fuel + 1, listed, q, m, a, w, hs, hc, h => by
    refine ⟨fun hr => all_done hf hx0 hQ h (all_of_ready hf hs hr), fun i hi => ?_⟩
    obtain ⟨h1, o, h2, h3⟩ := mem_ready.1 hi
    have hlt : i < ops.size := (Array.getElem?_eq_some_iff.1 h2).1
    have hlt' : i < listed.size := by omega
    have hL : Lf listed i = false := by
      unfold Lf
      simp [hlt'] at h1 ⊢
      exact h1
    have hr : Ready ops (Lf listed) i o := ⟨h2, hL, fun e he hb => h3 e (by simpa using he) hb⟩
    obtain ⟨q', _, h', hb⟩ := Inv.bound hf hx0 h
    refine op_ok hf hx0 hact hcall h' hb hr (by unfold Lf; simp [hs]) fun q2 m2 a2 w2 g => ?_
    refine any_ok fuel (by simpa using hs) ?_ (q := q2) (m := m2) (by rw [Lf_set hlt']; exact g)
    rw [Lf_set hlt']
    have := cnt_set (Lf listed) hL ops.size
    rw [if_pos hlt] at this
    omega
end
end Kv
end Go.Proofs.YtbnnfoimkdbjaaaGreatDoor
