/- The fast evaluator: what holds in the midst of a drawn region. No program in sight. -/
import Derived.Test.YtbnnfoimkdbjaaaGreatDoorKvE
namespace Go.Proofs.YtbnnfoimkdbjaaaGreatDoor
open Go.RowKit
namespace Kv
open Ev
set_option linter.unusedVariables false
set_option linter.unusedSimpArgs false
theorem vSame_eq {a b : V} (h : vSame a b = true) : a = b := of_decide_eq_true h
section
variable {w0 w ws : World} {m m0 : M} {σ σ0 : St}
theorem HR.layM (h : HR w0 m σ w) {y : Nat} {b : B} {r : Nat × Nat} (hy : σ.heap.get y = none) (hm : m y = some r) (hb : BR m r b w.heap[r.1]?) (hd : ∀ j c p, σ.heap.get j = some c → m j = some p → p.1 ≠ r.1) :
    HR w0 m ⟨σ.heap.put y (some b), σ.next⟩ w := by
  have old : ∀ i c, i ≠ y → (σ.heap.put y (some b)).get i = some c → σ.heap.get i = some c := fun i c hi h => by rwa [T.put_ne _ _ hi] at h
  have new : (σ.heap.put y (some b)).get y = some b := T.put_same ..
  refine ⟨h.below, h.glob, h.sym, h.most, h.fresh, h.own, fun i c q hi hq => ?_, fun i j ci cj p q hi hj hp hq hpq => ?_⟩
  · by_cases he : i = y
    · subst he
      simp only at hi
      rw [new] at hi
      cases hi
      rw [hm] at hq
      cases hq
      exact hb
    · exact h.live i c q (old i c he hi) hq
  · by_cases h1 : i = y <;> by_cases h2 : j = y
    · rw [h1, h2]
    · subst h1
      rw [hm] at hp
      cases hp
      exact absurd hpq.symm (hd j cj q (old j cj h2 hj) hq)
    · subst h2
      rw [hm] at hq
      cases hq
      exact absurd hpq (hd i ci p (old i ci h1 hi) hp)
    · exact h.inj i j ci cj p q (old i ci h1 hi) (old j cj h2 hj) hp hq hpq
theorem Gr.lay (h : Gr m0 σ0 ws m σ w) {y : Nat} (b : Option B) (hy : σ0.next ≤ y) : Gr m0 σ0 ws m ⟨σ.heap.put y b, σ.next⟩ w :=
  ⟨h.ext, h.fresh, h.next, h.size, h.news, fun i hi hm => (T.put_ne _ _ (by omega)).trans (h.keep i hi hm), fun i hi hd => (T.put_ne _ _ (by omega)).trans (h.dead i hi hd), h.kept⟩
theorem Gr.room (h : Gr m0 σ0 ws m σ w) {k : Nat} (hk : σ.next ≤ k) : Gr m0 σ0 ws m ⟨σ.heap, k⟩ w :=
  ⟨h.ext, h.fresh, Nat.le_trans h.next hk, h.size, h.news, h.keep, h.dead, h.kept⟩
theorem Gr.addN (h : Gr m0 σ0 ws m σ w) {y k : Nat} {o : Obj} (hy : σ0.next ≤ y) (hm : m y = none) : Gr m0 σ0 ws (m.add y (w.heap.size, k)) σ (w.alloc o) := by
  have hs := h.size
  refine ⟨h.ext.trans (M.ext_add _ hm), h.fresh, h.next, by simp; omega, fun i r hr => ?_, h.keep, h.dead, fun b hb hl => ?_⟩
  · by_cases he : i = y
    · subst he
      rw [M.add_same] at hr
      cases hr
      exact .inr ⟨h.fresh i hy, hy, .inl hs⟩
    · rw [M.add_ne _ _ he] at hr
      exact h.news i r hr
  · rw [Below.heap_alloc _ _ _ (by omega)]
    exact h.kept b hb hl
end
/-- What holds when the operations of L have come up; q: all the loud ones ahead of number q, and none from there on. -/
structure Inv (w0 : World) (tt : T TypeInfo) (fl : T (List TypeDesc)) (n : Nat) (ops : Array Oper) (F : Nat → Fr) (S : Nat → St) (v : Nat → V) (x : Nat → Nat) (m0 : M) (σ0 : St) (ws : World)
    (L : Nat → Bool) (q : Nat) (m : M) (a : Go.Act) (w : World) : Prop where
  hq : q ≤ ops.size
  pre : ∀ i o, ops[i]? = some o → (act tt fl o.op).isLoud = true → (L i = true ↔ i < q)
  rel : HR w0 m (S q) w
  top : x ops.size ≤ (S q).next
  gr : Gr m0 σ0 ws m (S q) w
  fr : FR m n (FL ops F v L ops.size) a
  bef : ∀ i z, i < q → AlAt tt fl ops F i z → L i = false → m (x i) = none ∧ (S q).heap.get (x i) = some z.b
  pend : ∀ i z, q ≤ i → AlAt tt fl ops F i z → L i = true → ∃ r, m (x i) = some r ∧ BR m r z.b w.heap[r.1]? ∧ (∀ j y p, (S q).heap.get j = some y → m j = some p → p.1 ≠ r.1) ∧
    ∀ i' z' r', q ≤ i' → AlAt tt fl ops F i' z' → L i' = true → i' ≠ i → m (x i') = some r' → r'.1 ≠ r.1
  aft : ∀ i z, q ≤ i → AlAt tt fl ops F i z → (S q).heap.get (x i) = none ∧ (L i = false → m (x i) = none)
  cl : Closed ops L
section
variable {Pr : Program} {w0 ws : World} {tt : T TypeInfo} {fl : T (List TypeDesc)} {n : Nat} {ops : Array Oper} {call : CallT} {F : Nat → Fr} {S : Nat → St} {v : Nat → V} {x pm Mk : Nat → Nat} {rds : List Rd} {bds : List Bd}
  {m0 m : M} {σ0 : St} {L : Nat → Bool} {q : Nat} {a : Go.Act} {w : World}
  (hf : Facts tt fl n ops call F S v x pm Mk rds bds) (hx0 : σ0.next ≤ x 0)
  (h : Inv w0 tt fl n ops F S v x m0 σ0 ws L q m a w)
include hf hx0 h
omit h in
theorem Facts.xlow {i : Nat} {z : Al} (hi : AlAt tt fl ops F i z) : σ0.next ≤ x i := by
  have h0 := hi
  obtain ⟨o, f, ho, _⟩ := hi
  have hlt : i < ops.size := (Array.getElem?_eq_some_iff.1 ho).1
  have := hf.xmono (i := 0) (j := i) (Nat.zero_le _) (by omega)
  omega
omit hx0 h in
/-- What an operation that is not loud does to the state, in the order of the text. -/
theorem Facts.quietS {i : Nat} {o : Oper} (ho : ops[i]? = some o) (hl : (act tt fl o.op).isLoud = false) :
    (∃ z, AlAt tt fl ops F i z ∧ S (i + 1) = ⟨(S i).heap.put (x i) (some z.b), (S i).next⟩ ∧ v i = .c (z.pt (x i))) ∨ ((∀ z, ¬ AlAt tt fl ops F i z) ∧ S (i + 1) = S i) := by
  obtain ⟨_, _, _, _, _, h6⟩ := hf.step i o ho
  rcases h6 with ⟨h1, h2, h3⟩ | ⟨h1, h2, h3⟩
  · refine .inr ⟨fun z ⟨o', f, g1, g2, g3, g4⟩ => ?_, h3⟩
    rw [ho] at g1
    cases g1
    rw [h1] at g3
    cases g3
  · unfold dstep at h2
    cases hac : act tt fl o.op with
    | pure f =>
      rw [hac] at h2
      simp only at h2
      split at h2
      · injection h2 with h2
        injection h2 with h4 h5
        refine .inr ⟨fun z ⟨o', f', g1, g2, g3, g4⟩ => ?_, h5.symm⟩
        rw [ho] at g1
        cases g1
        rw [hac] at g2
        cases g2
      · cases h2
    | read f =>
      rw [hac] at h2
      simp only at h2
      split at h2
      · injection h2 with h2
        injection h2 with h4 h5
        refine .inr ⟨fun z ⟨o', f', g1, g2, g3, g4⟩ => ?_, h5.symm⟩
        rw [ho] at g1
        cases g1
        rw [hac] at g2
        cases g2
      · cases h2
    | alloc f =>
      rw [hac] at h2
      simp only at h2
      split at h2
      · rename_i z hz
        injection h2 with h2
        injection h2 with h4 h5
        exact .inl ⟨z, ⟨o, f, ho, hac, h1, hz⟩, by rw [← h5, put_eq], h4.symm⟩
      · cases h2
    | loud f => rw [hac] at hl; cases hl
    | bad => rw [hac] at h2; cases h2
/-- The next operation of the text is not loud: the state may be that behind it. -/
theorem Inv.next {o : Oper} (ho : ops[q]? = some o) (hl : (act tt fl o.op).isLoud = false) : Inv w0 tt fl n ops F S v x m0 σ0 ws L (q + 1) m a w := by
  have hqs : q < ops.size := (Array.getElem?_eq_some_iff.1 ho).1
  have pre : ∀ i o, ops[i]? = some o → (act tt fl o.op).isLoud = true → (L i = true ↔ i < q + 1) := fun i o' ho' hl' => by
    rw [h.pre i o' ho' hl']
    have : i ≠ q := fun e => by subst e; rw [ho] at ho'; cases ho'; rw [hl] at hl'; cases hl'
    omega
  rcases hf.quietS ho hl with ⟨z, hz, hS, _⟩ | ⟨hn, hS⟩
  · have hlow := Facts.xlow hf hx0 hz
    have hxo := hf.xtop hz
    have other : ∀ (j : Nat) (c : B), j ≠ x q → (S (q + 1)).heap.get j = (S q).heap.get j := fun j _ hj => by rw [hS]; exact T.put_ne _ _ hj
    have same : (S (q + 1)).heap.get (x q) = some z.b := by rw [hS]; exact T.put_same ..
    obtain ⟨hdead, hfree⟩ := h.aft q z (Nat.le_refl _) hz
    have gr : Gr m0 σ0 ws m (S (q + 1)) w := by rw [hS]; exact Gr.lay h.gr _ hlow
    have rel : HR w0 m (S (q + 1)) w := by
      rw [hS]
      cases hL : L q with
      | false => exact h.rel.lay _ (hfree hL)
      | true =>
        obtain ⟨r, h1, h2, h3, h4⟩ := h.pend q z (Nat.le_refl _) hz hL
        exact HR.layM h.rel hdead h1 h2 h3
    refine ⟨hqs, pre, rel, by rw [hS]; exact h.top, gr, h.fr, fun i z' hi hz' hL => ?_, fun i z' hi hz' hL => ?_, fun i z' hi hz' => ?_, h.cl⟩
    · by_cases he : i = q
      · subst he
        obtain ⟨o1, f1, e1, e2, e3, e4⟩ := hz
        obtain ⟨o2, f2, g1, g2, g3, g4⟩ := hz'
        rw [e1] at g1
        cases g1
        rw [e2] at g2
        cases g2
        rw [e4] at g4
        cases g4
        exact ⟨hfree hL, same⟩
      · obtain ⟨h1, h2⟩ := h.bef i z' (by omega) hz' hL
        exact ⟨h1, by rw [other _ z'.b (hf.xne hz' hz he)]; exact h2⟩
    · have hne : i ≠ q := by omega
      obtain ⟨r, h1, h2, h3, h4⟩ := h.pend i z' (by omega) hz' hL
      refine ⟨r, h1, h2, fun j y p hj hp => ?_, fun i' z'' r' hi' => h4 i' z'' r' (by omega)⟩
      by_cases hjx : j = x q
      · subst hjx
        cases hLq : L q with
        | false => rw [hfree hLq] at hp; cases hp
        | true => exact h4 q z p (Nat.le_refl _) hz hLq (Ne.symm hne) hp
      · rw [other j z.b hjx] at hj
        exact h3 j y p hj hp
    · have hne : i ≠ q := by omega
      obtain ⟨h1, h2⟩ := h.aft i z' (by omega) hz'
      exact ⟨by rw [other _ z.b (hf.xne hz' hz hne)]; exact h1, h2⟩
  · refine ⟨hqs, pre, by rw [hS]; exact h.rel, by rw [hS]; exact h.top, by rw [hS]; exact h.gr, h.fr, fun i z' hi hz' hL => ?_, fun i z' hi hz' hL => ?_, fun i z' hi hz' => ?_, h.cl⟩
    · rw [hS]
      by_cases he : i = q
      · subst he; exact absurd hz' (hn z')
      · exact h.bef i z' (by omega) hz' hL
    · rw [hS]
      obtain ⟨r, h1, h2, h3, h4⟩ := h.pend i z' (by omega) hz' hL
      exact ⟨r, h1, h2, h3, fun i' z'' r' hi' => h4 i' z'' r' (by omega)⟩
    · rw [hS]
      exact h.aft i z' (by omega) hz'
theorem Inv.bound : ∃ q', q ≤ q' ∧ Inv w0 tt fl n ops F S v x m0 σ0 ws L q' m a w ∧ (q' = ops.size ∨ ∃ o, ops[q']? = some o ∧ (act tt fl o.op).isLoud = true) := by
  obtain ⟨d, hd⟩ : ∃ d, d = ops.size - q := ⟨_, rfl⟩
  induction d generalizing q with
  | zero => exact ⟨q, Nat.le_refl _, h, .inl (by have := h.hq; omega)⟩
  | succ d ih =>
    have hlt : q < ops.size := by omega
    have ho : ops[q]? = some ops[q] := Array.getElem?_eq_getElem hlt
    cases hl : (act tt fl (ops[q]).op).isLoud with
    | true => exact ⟨q, Nat.le_refl _, h, .inr ⟨_, ho, hl⟩⟩
    | false =>
      obtain ⟨q', h1, h2, h3⟩ := ih (Inv.next hf hx0 h ho hl) (by omega)
      exact ⟨q', by omega, h2, h3⟩
omit hx0 in
theorem Inv.looked {i : Nat} {o : Oper} (hr : Ready ops L i o) {t : Nat} (ht : t ∈ looks ops o) : VR m (sv (F i) t) (a.tmps.getD t undef) := by
  rw [← hf.looked h.cl hr ht]
  exact h.fr.slot t
omit hf hx0 in
theorem Inv.closed {i : Nat} {o : Oper} (hr : Ready ops L i o) : Closed ops (setL L i) := by
  intro j o' hj ho' e he hb
  unfold setL at hj ⊢
  by_cases hji : j = i
  · subst hji
    rw [hr.1] at ho'
    cases ho'
    have := hr.2.2 e he hb
    simp [this]
  · rw [if_neg hji] at hj
    have := h.cl j o' hj ho' e he hb
    simp [this]
omit hx0 in
theorem Inv.put {i : Nat} {o : Oper} (hr : Ready ops L i o) {m' : M} (e : Ext m m') {u : Value} (hu : VR m' (v i) u) : FR m' n (FL ops F v (setL L i) ops.size) (a.put o.dst u) := by
  have hsz := h.fr.size
  refine ⟨?_, ?_, fun t => ?_⟩
  · cases o.dst <;> simpa [Go.Act.put] using hsz
  · cases o.dst <;> exact h.fr.defers
  · show VR m' (sv _ t) _
    rw [hf.listed h.cl hr t]
    have hd := (hf.step i o hr.1).1
    cases ho : o.dst with
    | none =>
      rw [if_neg (by simp)]
      exact (h.fr.slot t).ext e
    | some k =>
      rw [ho] at hd
      have hk := Nat.le_of_ble_eq_true hd
      by_cases hkt : k = t
      · subst hkt
        rw [if_pos rfl]
        have : (k : Nat) < a.tmps.size := Nat.lt_of_lt_of_le hk hsz
        simpa [Go.Act.put, this] using hu
      · rw [if_neg (by simpa using hkt)]
        have h1 : (a.put (some k) u).tmps.getD t undef = a.tmps.getD t undef := by
          simp [Go.Act.put, Array.getElem?_setIfInBounds_ne hkt]
        rw [h1]
        exact (h.fr.slot t).ext e
end
end Kv
end Go.Proofs.YtbnnfoimkdbjaaaGreatDoor
