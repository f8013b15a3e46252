/- The fast evaluator: drawn regions, whatever the order. No program in sight. The fast evaluator: what holds in the midst of a drawn region. No program in sight. The fast evaluator: drawn regions, one operation on. No program in sight. -/
import Derived.Test.YtbemdcbglpjmiaaGreatDoorKvD
namespace Go.Proofs.YtbemdcbglpjmiaaGreatDoor
open Go.RowKit
namespace Kv
open Ev
set_option linter.unusedVariables false
set_option linter.unusedSimpArgs false
/-- What a slot holds. -/
def sv (F : Fr) (t : Nat) : V := (F.get t).getD .undef
theorem sv_putV (d : Option Nat) (u : V) (F : Fr) (t : Nat) : sv (putV (dstP d) u F) t = if d = some t then u else sv F t := by
  cases d with
  | none => simp [dstP, putV]
  | some k =>
    show sv (putP u (path k) F) t = _
    rw [sv, putP_path, T.get_put]
    by_cases h : t = k
    · subst h; simp
    · rw [if_neg h, if_neg (by simpa using fun e => h e.symm)]; rfl
theorem sv_restr (F : Fr) (t : Nat) : ∀ (l : List Nat), sv (restr F (paths l)) t = if t ∈ l then sv F t else .undef
  | [] => by simp [sv, restr, paths, T.get_nil]
  | y :: l => by
    show sv (putP (getP (path y) F) (path y) (restr F (paths l))) t = _
    rw [sv, putP_path, T.get_put, getP_path]
    by_cases h : t = y
    · subst h; simp [sv]
    · rw [if_neg h]
      have := sv_restr F t l
      unfold sv at this
      rw [this]
      simp [h, sv]
/-- The frame when the operations of L have been carried out. -/
noncomputable def FL (ops : Array Oper) (F : Nat → Fr) (v : Nat → V) (L : Nat → Bool) : Nat → Fr
  | 0 => F 0
  | p + 1 => match L p with
    | true => putV (dstP ((ops[p]?).bind (·.dst))) (v p) (FL ops F v L p)
    | false => FL ops F v L p
/-- Operation i of the region makes the block z. -/
def AlAt (tt : T TypeInfo) (fl : T (List TypeDesc)) (ops : Array Oper) (F : Nat → Fr) (i : Nat) (z : Al) : Prop :=
  ∃ o f, ops[i]? = some o ∧ act tt fl o.op = .alloc f ∧ want ops o (F i) = some true ∧ f (restr (F i) (paths (looks ops o))) = some z
structure Facts (tt : T TypeInfo) (fl : T (List TypeDesc)) (n : Nat) (ops : Array Oper) (call : CallT) (F : Nat → Fr) (S : Nat → St) (v : Nat → V) (x pm M : Nat → Nat) (rds : List Rd) (bds : List Bd) : Prop where
  step : ∀ i o, ops[i]? = some o → StepAt tt fl n ops call F S v x pm M rds bds i o
  mask : ∀ i o, ops[i]? = some o → MaskAt M i o
  pair : ∀ i j a b, i < j → ops[i]? = some a → ops[j]? = some b → conf tt fl ops a b = true → bit (M j) i = true
  last : ⟨ops.size, S ops.size, pm ops.size⟩ ∈ bds
  chk : ∀ r ∈ rds, ∀ b ∈ bds, rdOk r b = true
  pm0 : pm 0 = 0
  x0 : 64 ≤ x 0
def Closed (ops : Array Oper) (L : Nat → Bool) : Prop := ∀ j o, L j = true → ops[j]? = some o → ∀ e ∈ o.after.toList, Region.binds .any e = true → L e.on = true
def Ready (ops : Array Oper) (L : Nat → Bool) (i : Nat) (o : Oper) : Prop := ops[i]? = some o ∧ L i = false ∧ ∀ e ∈ o.after.toList, Region.binds .any e = true → L e.on = true
def setL (L : Nat → Bool) (i : Nat) : Nat → Bool := fun j => if j = i then true else L j
section
variable {Pr : Program} {w0 : World} {tt : T TypeInfo} {fl : T (List TypeDesc)} {n : Nat} {ops : Array Oper} {call : CallT} {F : Nat → Fr} {S : Nat → St} {v : Nat → V} {x pm M : Nat → Nat} {rds : List Rd} {bds : List Bd}
  (hf : Facts tt fl n ops call F S v x pm M rds bds)
include hf
theorem Facts.waits {L : Nat → Bool} (hc : Closed ops L) : ∀ (i : Nat) (o : Oper), ops[i]? = some o → (∀ e ∈ o.after.toList, Region.binds .any e = true → L e.on = true) → ∀ p, bit (M i) p = true → L p = true := by
  intro i
  induction i using Nat.strongRecOn with
  | _ i ih =>
    intro o ho he p hp
    obtain ⟨h1, h2⟩ := hf.mask i o ho
    obtain ⟨e, g1, g2, g3⟩ := h2 p hp
    have hl := he e g1 g2
    rcases g3 with rfl | g3
    · exact hl
    · have hlt := h1 e g1 g2
      have hi : i < ops.size := (Array.getElem?_eq_some_iff.1 ho).1
      obtain ⟨o', ho'⟩ : ∃ o', ops[e.on]? = some o' := ⟨ops[e.on], Array.getElem?_eq_getElem (by omega)⟩
      exact ih e.on hlt o' ho' (hc e.on o' hl ho') p g3
theorem Facts.before {L : Nat → Bool} (hc : Closed ops L) {i p : Nat} {o o' : Oper} (hr : Ready ops L i o) (hp : ops[p]? = some o') (hlt : p < i) (hcf : conf tt fl ops o' o = true) : L p = true :=
  hf.waits hc i o hr.1 hr.2.2 p (hf.pair p i o' o hlt hp hr.1 hcf)
theorem Facts.behind {L : Nat → Bool} (hc : Closed ops L) {i p : Nat} {o o' : Oper} (hr : Ready ops L i o) (hp : ops[p]? = some o') (hlt : i < p) (hcf : conf tt fl ops o o' = true) : L p = false := by
  cases h : L p with
  | false => rfl
  | true =>
    have := hf.waits hc p o' hp (hc p o' h hp) i (hf.pair i p o o' hlt hr.1 hp hcf)
    rw [hr.2.1] at this
    cases this
omit hf in
theorem conf_of_dst {a b : Oper} {t : Nat} (h : a.dst = some t) (hn : t ∈ namesOf ops b) : conf tt fl ops a b = true := by
  have : hitsN a.dst (namesOf ops b) = true := by rw [h]; exact (hasN_iff _ _).2 hn
  simp [conf, this]
omit hf in
theorem conf_of_dst' {a b : Oper} {t : Nat} (h : b.dst = some t) (hn : t ∈ namesOf ops a) : conf tt fl ops a b = true := by
  have : hitsN b.dst (namesOf ops a) = true := by rw [h]; exact (hasN_iff _ _).2 hn
  simp [conf, this]
omit hf in
theorem conf_of_loud {a b : Oper} (h1 : (act tt fl a.op).isLoud = true) (h2 : (act tt fl b.op).isLoud = true) : conf tt fl ops a b = true := by
  simp [conf, h1, h2]
omit hf in
theorem names_looks {o : Oper} {t : Nat} (h : t ∈ looks ops o) : t ∈ namesOf ops o := by
  unfold namesOf
  split
  · exact List.mem_cons_of_mem _ h
  · exact h
omit hf in
theorem names_dst {o : Oper} {t : Nat} (h : o.dst = some t) : t ∈ namesOf ops o := by
  unfold namesOf
  rw [h]
  exact List.mem_cons_self
theorem Facts.frame {i : Nat} {o : Oper} (ho : ops[i]? = some o) : F (i + 1) = putV (dstP o.dst) (v i) (F i) := (hf.step i o ho).2.1
/-- What operation i looks at is there when it may come up. -/
theorem Facts.looked {L : Nat → Bool} (hc : Closed ops L) {i : Nat} {o : Oper} (hr : Ready ops L i o) {t : Nat} (ht : t ∈ looks ops o) : sv (FL ops F v L ops.size) t = sv (F i) t := by
  have hi : i < ops.size := (Array.getElem?_eq_some_iff.1 hr.1).1
  have h1 : ∀ p, p ≤ i → sv (FL ops F v L p) t = sv (F p) t := by
    intro p
    induction p with
    | zero => intro _; rfl
    | succ p ih =>
      intro hp
      have ih := ih (by omega)
      obtain ⟨o', ho'⟩ : ∃ o', ops[p]? = some o' := ⟨ops[p], Array.getElem?_eq_getElem (by omega)⟩
      rw [hf.frame ho', sv_putV]
      rw [FL]
      by_cases hd : o'.dst = some t
      · rw [if_pos hd, hf.before hc hr ho' (by omega) (conf_of_dst hd (names_looks ht))]
        simp only
        rw [sv_putV, ho']
        simp [hd]
      · rw [if_neg hd, ← ih]
        split
        · rw [sv_putV, ho']; simp [hd]
        · rfl
  have h2 : ∀ p, i ≤ p → p ≤ ops.size → sv (FL ops F v L p) t = sv (FL ops F v L i) t := by
    intro p
    induction p with
    | zero => intro h _; have : i = 0 := by omega
              subst this; rfl
    | succ p ih =>
      intro hip hps
      by_cases hpi : i = p + 1
      · subst hpi; rfl
      · have ih := ih (by omega) (by omega)
        rw [FL, ← ih]
        obtain ⟨o', ho'⟩ : ∃ o', ops[p]? = some o' := ⟨ops[p], Array.getElem?_eq_getElem (by omega)⟩
        by_cases hpe : p = i
        · subst hpe; rw [hr.2.1]
        · by_cases hd : o'.dst = some t
          · rw [hf.behind hc hr ho' (by omega) (conf_of_dst' hd (names_looks ht))]
          · split
            · rw [sv_putV, ho']; simp [hd]
            · rfl
  rw [h2 _ (by omega) (Nat.le_refl _), h1 _ (Nat.le_refl _)]
theorem Facts.listed {L : Nat → Bool} (hc : Closed ops L) {i : Nat} {o : Oper} (hr : Ready ops L i o) (t : Nat) : sv (FL ops F v (setL L i) ops.size) t = if o.dst = some t then v i else sv (FL ops F v L ops.size) t := by
  have hi : i < ops.size := (Array.getElem?_eq_some_iff.1 hr.1).1
  have h1 : ∀ p, p ≤ i → FL ops F v (setL L i) p = FL ops F v L p := by
    intro p
    induction p with
    | zero => intro _; rfl
    | succ p ih =>
      intro hp
      rw [FL, FL, ih (by omega)]
      simp only [setL, if_neg (show p ≠ i by omega)]
  have h2 : ∀ p, i + 1 ≤ p → p ≤ ops.size → sv (FL ops F v (setL L i) p) t = if o.dst = some t then v i else sv (FL ops F v L p) t := by
    intro p
    induction p with
    | zero => intro h _; omega
    | succ p ih =>
      intro hip hps
      by_cases hpe : p = i
      · subst hpe
        rw [FL, FL, h1 _ (Nat.le_refl _), hr.2.1]
        simp only [setL, if_true]
        rw [sv_putV, hr.1]
        rfl
      · have ih := ih (by omega) (by omega)
        obtain ⟨o', ho'⟩ : ∃ o', ops[p]? = some o' := ⟨ops[p], Array.getElem?_eq_getElem (by omega)⟩
        rw [FL, FL]
        have hs : setL L i p = L p := by simp [setL, hpe]
        rw [hs]
        cases hL : L p with
        | false => exact ih
        | true =>
          simp only
          rw [sv_putV, sv_putV, ih, ho']
          simp only [Option.bind_some]
          by_cases hd : o'.dst = some t
          · rw [if_pos hd, if_pos hd]
            by_cases hd2 : o.dst = some t
            · have := hf.behind hc hr ho' (by omega) (conf_of_dst hd2 (names_dst hd))
              rw [hL] at this
              cases this
            · rw [if_neg hd2]
          · rw [if_neg hd, if_neg hd]
  exact h2 _ hi (Nat.le_refl _)
theorem Facts.all {L : Nat → Bool} (h : ∀ i, i < ops.size → L i = true) : ∀ p, p ≤ ops.size → FL ops F v L p = F p
  | 0, _ => rfl
  | p + 1, hp => by
    obtain ⟨o', ho'⟩ : ∃ o', ops[p]? = some o' := ⟨ops[p], Array.getElem?_eq_getElem (by omega)⟩
    rw [FL, h p (by omega), hf.frame ho', Facts.all h p (by omega), ho']
    rfl
omit hf in
theorem FL_none : ∀ p, FL ops F v (fun _ => false) p = F 0
  | 0 => rfl
  | p + 1 => by rw [FL]; exact FL_none p
/-! Numbers of new blocks -/
theorem Facts.xstep {i : Nat} {o : Oper} (ho : ops[i]? = some o) : x i ≤ x (i + 1) ∧ ((act tt fl o.op).isAlloc = true → x i < x (i + 1)) := by
  have h := (hf.step i o ho).2.2.1
  rw [h]
  split
  · exact ⟨Nat.le_succ _, fun _ => Nat.lt_succ_self _⟩
  · rename_i hn; exact ⟨Nat.le_refl _, fun e => by rw [hn] at e; cases e⟩
theorem Facts.xmono {i : Nat} : ∀ {j : Nat}, i ≤ j → j ≤ ops.size → x i ≤ x j
  | 0, h, _ => by have : i = 0 := by omega
                  subst this; exact Nat.le_refl _
  | j + 1, h, hj => by
    by_cases he : i = j + 1
    · subst he; exact Nat.le_refl _
    · obtain ⟨o', ho'⟩ : ∃ o', ops[j]? = some o' := ⟨ops[j], Array.getElem?_eq_getElem (by omega)⟩
      exact Nat.le_trans (Facts.xmono (by omega) (by omega)) (hf.xstep ho').1
theorem Facts.xlt {i j : Nat} {z : Al} (hi : AlAt tt fl ops F i z) (hij : i < j) (hj : j ≤ ops.size) : x i < x j := by
  obtain ⟨o, f, ho, ha, _⟩ := hi
  have h1 := (hf.xstep ho).2 (by rw [ha]; rfl)
  have h2 := hf.xmono (i := i + 1) (j := j) hij hj
  omega
theorem Facts.xtop {i : Nat} {z : Al} (hi : AlAt tt fl ops F i z) : 64 ≤ x i ∧ x i < x ops.size := by
  have h0 := hi
  obtain ⟨o, f, ho, _⟩ := hi
  have hlt : i < ops.size := (Array.getElem?_eq_some_iff.1 ho).1
  have h1 := hf.xmono (i := 0) (j := i) (Nat.zero_le _) (by omega)
  have h2 := hf.x0
  exact ⟨by omega, hf.xlt h0 hlt (Nat.le_refl _)⟩
theorem Facts.xne {i j : Nat} {z z' : Al} (hi : AlAt tt fl ops F i z) (hj : AlAt tt fl ops F j z') (hne : i ≠ j) : x i ≠ x j := by
  have hi' := hi
  have hj' := hj
  obtain ⟨o, f, ho, _⟩ := hi'
  obtain ⟨o', f', ho', _⟩ := hj'
  have h1 : i < ops.size := (Array.getElem?_eq_some_iff.1 ho).1
  have h2 : j < ops.size := (Array.getElem?_eq_some_iff.1 ho').1
  rcases Nat.lt_or_ge i j with h | h
  · have := hf.xlt hi h (by omega); omega
  · have := hf.xlt hj (by omega : j < i) (by omega); omega
/-- Whoever is waited for by the loud ones that are through has come up. -/
theorem Facts.pmbit {i : Nat} : ∀ {q : Nat}, q ≤ ops.size → bit (pm q) i = true → ∃ p o, p < q ∧ ops[p]? = some o ∧ (act tt fl o.op).isLoud = true ∧ bit (M p) i = true
  | 0, _, h => by rw [hf.pm0] at h; simp [bit] at h
  | q + 1, hq, h => by
    obtain ⟨o', ho'⟩ : ∃ o', ops[q]? = some o' := ⟨ops[q], Array.getElem?_eq_getElem (by omega)⟩
    rw [(hf.step q o' ho').2.2.2.1] at h
    split at h
    · rename_i hl
      rw [bit_lor, Bool.or_eq_true] at h
      rcases h with h | h
      · obtain ⟨p, o, h1, h2⟩ := Facts.pmbit (by omega) h
        exact ⟨p, o, by omega, h2⟩
      · exact ⟨q, o', by omega, ho', hl, h⟩
    · obtain ⟨p, o, h1, h2⟩ := Facts.pmbit (by omega) h
      exact ⟨p, o, by omega, h2⟩
end
end Kv
end Go.Proofs.YtbemdcbglpjmiaaGreatDoor
namespace Go.Proofs.YtbemdcbglpjmiaaGreatDoor
open Go.RowKit
namespace Kv
open Ev
set_option linter.unusedVariables false
set_option linter.unusedSimpArgs false
theorem vSame_eq {a b : V} (h : vSame a b = true) : a = b := of_decide_eq_true h
section
variable {w0 w ws : World} {m m0 : M} {σ σ0 : St}
theorem HR.layM (h : HR w0 m σ w) {y : Nat} {b : B} {r : Nat × Nat} (hy : σ.heap.get y = none) (hm : m y = some r) (hb : BR m r b w.heap[r.1]?) (hd : ∀ j c p, σ.heap.get j = some c → m j = some p → p.1 ≠ r.1) :
    HR w0 m ⟨σ.heap.put y (some b), σ.next⟩ w := by
  have old : ∀ i c, i ≠ y → (σ.heap.put y (some b)).get i = some c → σ.heap.get i = some c := fun i c hi h => by rwa [T.put_ne _ _ hi] at h
  have new : (σ.heap.put y (some b)).get y = some b := T.put_same ..
  refine ⟨h.below, h.glob, h.sym, h.most, h.fresh, h.own, fun i c q hi hq => ?_, fun i j ci cj p q hi hj hp hq hpq => ?_⟩
  · by_cases he : i = y
    · subst he
      simp only at hi
      rw [new] at hi
      cases hi
      rw [hm] at hq
      cases hq
      exact hb
    · exact h.live i c q (old i c he hi) hq
  · by_cases h1 : i = y <;> by_cases h2 : j = y
    · rw [h1, h2]
    · subst h1
      rw [hm] at hp
      cases hp
      exact absurd hpq.symm (hd j cj q (old j cj h2 hj) hq)
    · subst h2
      rw [hm] at hq
      cases hq
      exact absurd hpq (hd i ci p (old i ci h1 hi) hp)
    · exact h.inj i j ci cj p q (old i ci h1 hi) (old j cj h2 hj) hp hq hpq
theorem Gr.lay (h : Gr m0 σ0 ws m σ w) {y : Nat} (b : Option B) (hy : σ0.next ≤ y) : Gr m0 σ0 ws m ⟨σ.heap.put y b, σ.next⟩ w :=
  ⟨h.ext, h.fresh, h.next, h.size, h.news, fun i hi hm => (T.put_ne _ _ (by omega)).trans (h.keep i hi hm), fun i hi hd => (T.put_ne _ _ (by omega)).trans (h.dead i hi hd), h.kept⟩
theorem Gr.room (h : Gr m0 σ0 ws m σ w) {k : Nat} (hk : σ.next ≤ k) : Gr m0 σ0 ws m ⟨σ.heap, k⟩ w :=
  ⟨h.ext, h.fresh, Nat.le_trans h.next hk, h.size, h.news, h.keep, h.dead, h.kept⟩
theorem Gr.addN (h : Gr m0 σ0 ws m σ w) {y k : Nat} {o : Obj} (hy : σ0.next ≤ y) (hm : m y = none) : Gr m0 σ0 ws (m.add y (w.heap.size, k)) σ (w.alloc o) := by
  have hs := h.size
  refine ⟨h.ext.trans (M.ext_add _ hm), h.fresh, h.next, by simp; omega, fun i r hr => ?_, h.keep, h.dead, fun b hb hl => ?_⟩
  · by_cases he : i = y
    · subst he
      rw [M.add_same] at hr
      cases hr
      exact .inr ⟨h.fresh i hy, hy, .inl hs⟩
    · rw [M.add_ne _ _ he] at hr
      exact h.news i r hr
  · rw [Below.heap_alloc _ _ _ (by omega)]
    exact h.kept b hb hl
end
/-- What holds when the operations of L have come up; q: all the loud ones ahead of number q, and none from there on. -/
structure Inv (w0 : World) (tt : T TypeInfo) (fl : T (List TypeDesc)) (n : Nat) (ops : Array Oper) (F : Nat → Fr) (S : Nat → St) (v : Nat → V) (x : Nat → Nat) (m0 : M) (σ0 : St) (ws : World)
    (L : Nat → Bool) (q : Nat) (m : M) (a : Go.Act) (w : World) : Prop where
  hq : q ≤ ops.size
  pre : ∀ i o, ops[i]? = some o → (act tt fl o.op).isLoud = true → (L i = true ↔ i < q)
  rel : HR w0 m (S q) w
  top : x ops.size ≤ (S q).next
  gr : Gr m0 σ0 ws m (S q) w
  fr : FR m n (FL ops F v L ops.size) a
  bef : ∀ i z, i < q → AlAt tt fl ops F i z → L i = false → m (x i) = none ∧ (S q).heap.get (x i) = some z.b
  pend : ∀ i z, q ≤ i → AlAt tt fl ops F i z → L i = true → ∃ r, m (x i) = some r ∧ BR m r z.b w.heap[r.1]? ∧ (∀ j y p, (S q).heap.get j = some y → m j = some p → p.1 ≠ r.1) ∧
    ∀ i' z' r', q ≤ i' → AlAt tt fl ops F i' z' → L i' = true → i' ≠ i → m (x i') = some r' → r'.1 ≠ r.1
  aft : ∀ i z, q ≤ i → AlAt tt fl ops F i z → (S q).heap.get (x i) = none ∧ (L i = false → m (x i) = none)
  cl : Closed ops L
section
variable {Pr : Program} {w0 ws : World} {tt : T TypeInfo} {fl : T (List TypeDesc)} {n : Nat} {ops : Array Oper} {call : CallT} {F : Nat → Fr} {S : Nat → St} {v : Nat → V} {x pm Mk : Nat → Nat} {rds : List Rd} {bds : List Bd}
  {m0 m : M} {σ0 : St} {L : Nat → Bool} {q : Nat} {a : Go.Act} {w : World}
  (hf : Facts tt fl n ops call F S v x pm Mk rds bds) (hx0 : σ0.next ≤ x 0)
  (h : Inv w0 tt fl n ops F S v x m0 σ0 ws L q m a w)
include hf hx0 h
omit h in
theorem Facts.xlow {i : Nat} {z : Al} (hi : AlAt tt fl ops F i z) : σ0.next ≤ x i := by
  have h0 := hi
  obtain ⟨o, f, ho, _⟩ := hi
  have hlt : i < ops.size := (Array.getElem?_eq_some_iff.1 ho).1
  have := hf.xmono (i := 0) (j := i) (Nat.zero_le _) (by omega)
  omega
omit hx0 h in
/-- What an operation that is not loud does to the state, in the order of the text. -/
theorem Facts.quietS {i : Nat} {o : Oper} (ho : ops[i]? = some o) (hl : (act tt fl o.op).isLoud = false) :
    (∃ z, AlAt tt fl ops F i z ∧ S (i + 1) = ⟨(S i).heap.put (x i) (some z.b), (S i).next⟩ ∧ v i = .c (z.pt (x i))) ∨ ((∀ z, ¬ AlAt tt fl ops F i z) ∧ S (i + 1) = S i) := by
  obtain ⟨_, _, _, _, _, h6⟩ := hf.step i o ho
  rcases h6 with ⟨h1, h2, h3⟩ | ⟨h1, h2, h3⟩
  · refine .inr ⟨fun z ⟨o', f, g1, g2, g3, g4⟩ => ?_, h3⟩
    rw [ho] at g1
    cases g1
    rw [h1] at g3
    cases g3
  · unfold dstep at h2
    cases hac : act tt fl o.op with
    | pure f =>
      rw [hac] at h2
      simp only at h2
      split at h2
      · injection h2 with h2
        injection h2 with h4 h5
        refine .inr ⟨fun z ⟨o', f', g1, g2, g3, g4⟩ => ?_, h5.symm⟩
        rw [ho] at g1
        cases g1
        rw [hac] at g2
        cases g2
      · cases h2
    | read f =>
      rw [hac] at h2
      simp only at h2
      split at h2
      · injection h2 with h2
        injection h2 with h4 h5
        refine .inr ⟨fun z ⟨o', f', g1, g2, g3, g4⟩ => ?_, h5.symm⟩
        rw [ho] at g1
        cases g1
        rw [hac] at g2
        cases g2
      · cases h2
    | alloc f =>
      rw [hac] at h2
      simp only at h2
      split at h2
      · rename_i z hz
        injection h2 with h2
        injection h2 with h4 h5
        exact .inl ⟨z, ⟨o, f, ho, hac, h1, hz⟩, by rw [← h5, put_eq], h4.symm⟩
      · cases h2
    | loud f => rw [hac] at hl; cases hl
    | bad => rw [hac] at h2; cases h2
/-- The next operation of the text is not loud: the state may be that behind it. -/
theorem Inv.next {o : Oper} (ho : ops[q]? = some o) (hl : (act tt fl o.op).isLoud = false) : Inv w0 tt fl n ops F S v x m0 σ0 ws L (q + 1) m a w := by
  have hqs : q < ops.size := (Array.getElem?_eq_some_iff.1 ho).1
  have pre : ∀ i o, ops[i]? = some o → (act tt fl o.op).isLoud = true → (L i = true ↔ i < q + 1) := fun i o' ho' hl' => by
    rw [h.pre i o' ho' hl']
    have : i ≠ q := fun e => by subst e; rw [ho] at ho'; cases ho'; rw [hl] at hl'; cases hl'
    omega
  rcases hf.quietS ho hl with ⟨z, hz, hS, _⟩ | ⟨hn, hS⟩
  · have hlow := Facts.xlow hf hx0 hz
    have hxo := hf.xtop hz
    have other : ∀ (j : Nat) (c : B), j ≠ x q → (S (q + 1)).heap.get j = (S q).heap.get j := fun j _ hj => by rw [hS]; exact T.put_ne _ _ hj
    have same : (S (q + 1)).heap.get (x q) = some z.b := by rw [hS]; exact T.put_same ..
    obtain ⟨hdead, hfree⟩ := h.aft q z (Nat.le_refl _) hz
    have gr : Gr m0 σ0 ws m (S (q + 1)) w := by rw [hS]; exact Gr.lay h.gr _ hlow
    have rel : HR w0 m (S (q + 1)) w := by
      rw [hS]
      cases hL : L q with
      | false => exact h.rel.lay _ (hfree hL)
      | true =>
        obtain ⟨r, h1, h2, h3, h4⟩ := h.pend q z (Nat.le_refl _) hz hL
        exact HR.layM h.rel hdead h1 h2 h3
    refine ⟨hqs, pre, rel, by rw [hS]; exact h.top, gr, h.fr, fun i z' hi hz' hL => ?_, fun i z' hi hz' hL => ?_, fun i z' hi hz' => ?_, h.cl⟩
    · by_cases he : i = q
      · subst he
        obtain ⟨o1, f1, e1, e2, e3, e4⟩ := hz
        obtain ⟨o2, f2, g1, g2, g3, g4⟩ := hz'
        rw [e1] at g1
        cases g1
        rw [e2] at g2
        cases g2
        rw [e4] at g4
        cases g4
        exact ⟨hfree hL, same⟩
      · obtain ⟨h1, h2⟩ := h.bef i z' (by omega) hz' hL
        exact ⟨h1, by rw [other _ z'.b (hf.xne hz' hz he)]; exact h2⟩
    · have hne : i ≠ q := by omega
      obtain ⟨r, h1, h2, h3, h4⟩ := h.pend i z' (by omega) hz' hL
      refine ⟨r, h1, h2, fun j y p hj hp => ?_, fun i' z'' r' hi' => h4 i' z'' r' (by omega)⟩
      by_cases hjx : j = x q
      · subst hjx
        cases hLq : L q with
        | false => rw [hfree hLq] at hp; cases hp
        | true => exact h4 q z p (Nat.le_refl _) hz hLq (Ne.symm hne) hp
      · rw [other j z.b hjx] at hj
        exact h3 j y p hj hp
    · have hne : i ≠ q := by omega
      obtain ⟨h1, h2⟩ := h.aft i z' (by omega) hz'
      exact ⟨by rw [other _ z.b (hf.xne hz' hz hne)]; exact h1, h2⟩
  · refine ⟨hqs, pre, by rw [hS]; exact h.rel, by rw [hS]; exact h.top, by rw [hS]; exact h.gr, h.fr, fun i z' hi hz' hL => ?_, fun i z' hi hz' hL => ?_, fun i z' hi hz' => ?_, h.cl⟩
    · rw [hS]
      by_cases he : i = q
      · subst he; exact absurd hz' (hn z')
      · exact h.bef i z' (by omega) hz' hL
    · rw [hS]
      obtain ⟨r, h1, h2, h3, h4⟩ := h.pend i z' (by omega) hz' hL
      exact ⟨r, h1, h2, h3, fun i' z'' r' hi' => h4 i' z'' r' (by omega)⟩
    · rw [hS]
      exact h.aft i z' (by omega) hz'
theorem Inv.bound : ∃ q', q ≤ q' ∧ Inv w0 tt fl n ops F S v x m0 σ0 ws L q' m a w ∧ (q' = ops.size ∨ ∃ o, ops[q']? = some o ∧ (act tt fl o.op).isLoud = true) := by
  obtain ⟨d, hd⟩ : ∃ d, d = ops.size - q := ⟨_, rfl⟩
  induction d generalizing q with
  | zero => exact ⟨q, Nat.le_refl _, h, .inl (by have := h.hq; omega)⟩
  | succ d ih =>
    have hlt : q < ops.size := by omega
    have ho : ops[q]? = some ops[q] := Array.getElem?_eq_getElem hlt
    cases hl : (act tt fl (ops[q]).op).isLoud with
    | true => exact ⟨q, Nat.le_refl _, h, .inr ⟨_, ho, hl⟩⟩
    | false =>
      obtain ⟨q', h1, h2, h3⟩ := ih (Inv.next hf hx0 h ho hl) (by omega)
      exact ⟨q', by omega, h2, h3⟩
omit hx0 in
theorem Inv.looked {i : Nat} {o : Oper} (hr : Ready ops L i o) {t : Nat} (ht : t ∈ looks ops o) : VR m (sv (F i) t) (a.tmps.getD t undef) := by
  rw [← hf.looked h.cl hr ht]
  exact h.fr.slot t
omit hf hx0 in
theorem Inv.closed {i : Nat} {o : Oper} (hr : Ready ops L i o) : Closed ops (setL L i) := by
  intro j o' hj ho' e he hb
  unfold setL at hj ⊢
  by_cases hji : j = i
  · subst hji
    rw [hr.1] at ho'
    cases ho'
    have := hr.2.2 e he hb
    simp [this]
  · rw [if_neg hji] at hj
    have := h.cl j o' hj ho' e he hb
    simp [this]
omit hx0 in
theorem Inv.put {i : Nat} {o : Oper} (hr : Ready ops L i o) {m' : M} (e : Ext m m') {u : Value} (hu : VR m' (v i) u) : FR m' n (FL ops F v (setL L i) ops.size) (a.put o.dst u) := by
  have hsz := h.fr.size
  refine ⟨?_, ?_, fun t => ?_⟩
  · cases o.dst <;> simpa [Go.Act.put] using hsz
  · cases o.dst <;> exact h.fr.defers
  · show VR m' (sv _ t) _
    rw [hf.listed h.cl hr t]
    have hd := (hf.step i o hr.1).1
    cases ho : o.dst with
    | none =>
      rw [if_neg (by simp)]
      exact (h.fr.slot t).ext e
    | some k =>
      rw [ho] at hd
      have hk := Nat.le_of_ble_eq_true hd
      by_cases hkt : k = t
      · subst hkt
        rw [if_pos rfl]
        have : (k : Nat) < a.tmps.size := Nat.lt_of_lt_of_le hk hsz
        simpa [Go.Act.put, this] using hu
      · rw [if_neg (by simpa using hkt)]
        have h1 : (a.put (some k) u).tmps.getD t undef = a.tmps.getD t undef := by
          simp [Go.Act.put, Array.getElem?_setIfInBounds_ne hkt]
        rw [h1]
        exact (h.fr.slot t).ext e
end
end Kv
end Go.Proofs.YtbemdcbglpjmiaaGreatDoor
namespace Go.Proofs.YtbemdcbglpjmiaaGreatDoor
open Go.RowKit
namespace Kv
open Ev
set_option linter.unusedVariables false
set_option linter.unusedSimpArgs false
theorem setL_same (L : Nat → Bool) (i : Nat) : setL L i i = true := by simp [setL]
theorem setL_ne (L : Nat → Bool) {i j : Nat} (h : j ≠ i) : setL L i j = L j := by simp [setL, h]
section
variable {Pr : Program} {w0 ws : World} {tt : T TypeInfo} {fl : T (List TypeDesc)} {n : Nat} {ops : Array Oper} {call : CallT} {F : Nat → Fr} {S : Nat → St} {v : Nat → V} {x pm Mk : Nat → Nat} {rds : List Rd} {bds : List Bd}
  {m0 m m' : M} {σ0 : St} {L : Nat → Bool} {q : Nat} {a : Go.Act} {w w' : World}
  (hf : Facts tt fl n ops call F S v x pm Mk rds bds) (hx0 : σ0.next ≤ x 0)
  (h : Inv w0 tt fl n ops F S v x m0 σ0 ws L q m a w)
include hf hx0 h
omit hx0 in
theorem Inv.quiet {i : Nat} {o : Oper} {u : Value} (hr : Ready ops L i o) (hl : (act tt fl o.op).isLoud = false) (hn : ∀ z, ¬ AlAt tt fl ops F i z) (hu : VR m (v i) u) :
    Inv w0 tt fl n ops F S v x m0 σ0 ws (setL L i) q m (a.put o.dst u) w := by
  have hne : ∀ j z, AlAt tt fl ops F j z → j ≠ i := fun j z hz e => by subst e; exact hn z hz
  refine ⟨h.hq, fun j o' ho' hl' => ?_, h.rel, h.top, h.gr, Inv.put hf h hr (Ext.refl m) hu, fun j z hj hz hL => ?_, fun j z hj hz hL => ?_, fun j z hj hz => ?_, Inv.closed h hr⟩
  · have : j ≠ i := fun e => by subst e; rw [hr.1] at ho'; cases ho'; rw [hl] at hl'; cases hl'
    rw [setL_ne L this]
    exact h.pre j o' ho' hl'
  · rw [setL_ne L (hne j z hz)] at hL
    exact h.bef j z hj hz hL
  · rw [setL_ne L (hne j z hz)] at hL
    obtain ⟨r, h1, h2, h3, h4⟩ := h.pend j z hj hz hL
    exact ⟨r, h1, h2, h3, fun i' z' r' g1 g2 g3 => h4 i' z' r' g1 g2 (by rw [setL_ne L (hne i' z' g2)] at g3; exact g3)⟩
  · rw [setL_ne L (hne j z hz)]
    exact h.aft j z hj hz
omit hx0 in
theorem Inv.loud {o : Oper} {u : Value} (hr : Ready ops L q o) (hl : (act tt fl o.op).isLoud = true) (hG : Gr m (S q) w m' (S (q + 1)) w') (hH : HR w0 m' (S (q + 1)) w') (hu : VR m' (v q) u) :
    Inv w0 tt fl n ops F S v x m0 σ0 ws (setL L q) (q + 1) m' (a.put o.dst u) w' := by
  have hqs : q < ops.size := (Array.getElem?_eq_some_iff.1 hr.1).1
  have hne : ∀ j z, AlAt tt fl ops F j z → j ≠ q := fun j z ⟨o', f, g1, g2, _⟩ e => by
    subst e
    rw [hr.1] at g1
    cases g1
    rw [g2] at hl
    cases hl
  have htop := h.top
  have unm : ∀ j z, AlAt tt fl ops F j z → m (x j) = none → m' (x j) = none := fun j z hz hm => by
    cases hm' : m' (x j) with
    | none => rfl
    | some r =>
      have := (hf.xtop hz).2
      rcases hG.news _ r hm' with g | ⟨_, g, _⟩
      · rw [hm] at g; cases g
      · omega
  refine ⟨hqs, fun j o' ho' hl' => ?_, hH, Nat.le_trans htop hG.next, h.gr.trans hG, Inv.put hf h hr hG.ext hu, fun j z hj hz hL => ?_, fun j z hj hz hL => ?_, fun j z hj hz => ?_, Inv.closed h hr⟩
  · by_cases he : j = q
    · subst he; simp [setL_same]
    · rw [setL_ne L he, h.pre j o' ho' hl']; omega
  · have hjq := hne j z hz
    rw [setL_ne L hjq] at hL
    obtain ⟨h1, h2⟩ := h.bef j z (by omega) hz hL
    have := (hf.xtop hz).2
    exact ⟨unm j z hz h1, by rw [hG.keep _ (by omega) h1]; exact h2⟩
  · have hjq := hne j z hz
    rw [setL_ne L hjq] at hL
    obtain ⟨r, h1, h2, h3, h4⟩ := h.pend j z (by omega) hz hL
    have hlt := h2.lt
    have hk := hG.kept r.1 hlt fun i y p hi hp => h3 i y p hi hp
    refine ⟨r, hG.ext _ _ h1, by rw [hk]; exact h2.ext hG.ext, fun i y p hi hp => ?_, fun i' z' r' g1 g2 g3 g4 g5 => ?_⟩
    · rcases hG.news i p hp with g | ⟨_, _, g | ⟨i2, y2, p2, g1, g2, g3⟩⟩
      · obtain ⟨y', hy'⟩ := hG.old hi g
        exact h3 i y' p hy' g
      · omega
      · rw [← g3]; exact h3 i2 y2 p2 g1 g2
    · have hiq := hne i' z' g2
      rw [setL_ne L hiq] at g3
      obtain ⟨r2, k1, k2, k3, k4⟩ := h.pend i' z' (by omega) g2 g3
      have := hG.ext _ _ k1
      rw [g5] at this
      cases this
      exact h4 i' z' r' (by omega) g2 g3 g4 k1
  · have hjq := hne j z hz
    rw [setL_ne L hjq]
    obtain ⟨h1, h2⟩ := h.aft j z (by omega) hz
    have := (hf.xtop hz).2
    exact ⟨hG.dead _ (by omega) h1, fun hL => unm j z hz (h2 hL)⟩
theorem Inv.alloc {i : Nat} {o : Oper} {z : Al} {u : Value} {ob : Obj} {k : Nat} (hr : Ready ops L i o) (hz : AlAt tt fl ops F i z)
    (hB : BR (m.add (x i) (w.heap.size, k)) (w.heap.size, k) z.b (some ob)) (hu : VR (m.add (x i) (w.heap.size, k)) (v i) u) :
    Inv w0 tt fl n ops F S v x m0 σ0 ws (setL L i) q (m.add (x i) (w.heap.size, k)) (a.put o.dst u) (w.alloc ob) := by
  have hxo := hf.xtop hz
  have hlow := Facts.xlow hf hx0 hz
  have htop := h.top
  have uniq : ∀ z', AlAt tt fl ops F i z' → z' = z := fun z' hz' => by
    obtain ⟨o1, f1, e1, e2, e3, e4⟩ := hz
    obtain ⟨o2, f2, g1, g2, g3, g4⟩ := hz'
    rw [e1] at g1
    cases g1
    rw [e2] at g2
    cases g2
    rw [e4] at g4
    cases g4
    rfl
  have hm : m (x i) = none := by
    rcases Nat.lt_or_ge i q with h1 | h1
    · exact (h.bef i z h1 hz hr.2.1).1
    · exact (h.aft i z h1 hz).2 hr.2.1
  have oth : ∀ j z', AlAt tt fl ops F j z' → j ≠ i → m.add (x i) (w.heap.size, k) (x j) = m (x j) := fun j z' hz' hne => M.add_ne _ _ (hf.xne hz' hz hne)
  have ex := M.ext_add (w.heap.size, k) hm
  have hnl : (act tt fl o.op).isLoud = false := by
    obtain ⟨o1, f1, e1, e2, _⟩ := hz
    rw [hr.1] at e1
    cases e1
    rw [e2]; rfl
  refine ⟨h.hq, fun j o' ho' hl' => ?_, h.rel.add hxo.1 hm (by omega) fun b hb => ?_, htop, Gr.addN h.gr hlow hm, Inv.put hf h hr ex hu, fun j z' hj hz' hL => ?_, fun j z' hj hz' hL => ?_, fun j z' hj hz' => ?_, Inv.closed h hr⟩
  · have : j ≠ i := fun e => by subst e; rw [hr.1] at ho'; cases ho'; rw [hnl] at hl'; cases hl'
    rw [setL_ne L this]
    exact h.pre j o' ho' hl'
  · rcases Nat.lt_or_ge i q with h1 | h1
    · rw [(h.bef i z h1 hz hr.2.1).2] at hb
      cases hb
      exact hB
    · rw [(h.aft i z h1 hz).1] at hb
      cases hb
  · have hne : j ≠ i := fun e => by subst e; rw [setL_same] at hL; cases hL
    rw [setL_ne L hne] at hL
    rw [oth j z' hz' hne]
    exact h.bef j z' hj hz' hL
  · have live : ∀ y c p, (S q).heap.get y = some c → m.add (x i) (w.heap.size, k) y = some p → (p.1 < w.heap.size ∧ m y = some p) ∨ (i < q ∧ p.1 = w.heap.size) := by
      intro y c p hy hp
      by_cases he : y = x i
      · subst he
        rw [M.add_same] at hp
        cases hp
        rcases Nat.lt_or_ge i q with h1 | h1
        · exact .inr ⟨h1, rfl⟩
        · rw [(h.aft i z h1 hz).1] at hy; cases hy
      · rw [M.add_ne _ _ he] at hp
        exact .inl ⟨(h.rel.live y c p hy hp).lt, hp⟩
    by_cases hne : j = i
    · subst hne
      obtain rfl := uniq z' hz'
      refine ⟨(w.heap.size, k), M.add_same .., by rw [heap_alloc_new]; exact hB, fun y c p hy hp => ?_, fun i' z'' r' g1 g2 g3 g4 g5 => ?_⟩
      · rcases live y c p hy hp with ⟨h1, _⟩ | ⟨h1, _⟩
        · show p.1 ≠ w.heap.size; omega
        · omega
      · rw [setL_ne L g4] at g3
        rw [oth i' z'' g2 g4] at g5
        obtain ⟨r2, k1, k2, _⟩ := h.pend i' z'' g1 g2 g3
        rw [g5] at k1
        cases k1
        have := k2.lt
        show r'.1 ≠ w.heap.size
        omega
    · rw [setL_ne L hne] at hL
      obtain ⟨r, h1, h2, h3, h4⟩ := h.pend j z' hj hz' hL
      have hlt := h2.lt
      refine ⟨r, by rw [oth j z' hz' hne]; exact h1, by rw [Below.heap_alloc _ _ _ hlt]; exact h2.ext ex, fun y c p hy hp => ?_, fun i' z'' r' g1 g2 g3 g4 g5 => ?_⟩
      · rcases live y c p hy hp with ⟨_, k1⟩ | ⟨_, k1⟩
        · exact h3 y c p hy k1
        · omega
      · by_cases hi' : i' = i
        · subst hi'
          rw [M.add_same] at g5
          cases g5
          show w.heap.size ≠ r.1
          omega
        · rw [setL_ne L hi'] at g3
          rw [oth i' z'' g2 hi'] at g5
          exact h4 i' z'' r' g1 g2 g3 g4 g5
  · by_cases hne : j = i
    · subst hne
      exact ⟨(h.aft j z' hj hz').1, fun hL => by rw [setL_same] at hL; cases hL⟩
    · rw [setL_ne L hne, oth j z' hz' hne]
      exact h.aft j z' hj hz'
end
/-! ### An operation sees no more than it looks at -/
/-- The slots of l alone. -/
def only (l : List Nat) (a : Go.Act) : Go.Act := { a with tmps := (Array.range a.tmps.size).map fun t => if t ∈ l then a.tmps.getD t undef else undef }
theorem only_get (l : List Nat) (a : Go.Act) (t : Nat) : (only l a).tmps.getD t undef = if t ∈ l then a.tmps.getD t undef else undef := by
  unfold only
  by_cases h : t < a.tmps.size
  · simp [h]
  · simp [h]
section
variable {m : M} {n : Nat} {ops : Array Oper} {a : Go.Act} {o : Oper} {F : Fr}
theorem only_fr (hs : n ≤ a.tmps.size) (hd : a.defers = []) (h : ∀ t ∈ looks ops o, VR m (sv F t) (a.tmps.getD t undef)) : FR m n (restr F (paths (looks ops o))) (only (looks ops o) a) := by
  refine ⟨by simpa [only] using hs, hd, fun t => ?_⟩
  show VR m (sv _ t) _
  rw [sv_restr, only_get]
  split
  · exact h t (by assumption)
  · rfl
theorem only_exec (hs : ∀ cs b, o.op ≠ .select cs b) : execOp (only (looks ops o) a).eval o = execOp a.eval o := by
  refine execOp_congr o hs fun y hy => ?_
  cases y with
  | tmp t =>
    have ht : t ∈ looks ops o := List.mem_append_left _ (List.mem_filterMap.2 ⟨.tmp t, by simpa using hy, rfl⟩)
    show (only (looks ops o) a).tmps.getD t undef = a.tmps.getD t undef
    rw [only_get, if_pos ht]
  | _ => rfl
theorem want_ok {b : Bool} (hs : ∀ t ∈ looks ops o, VR m (sv F t) (a.tmps.getD t undef)) (h : want ops o F = some b) : Region.wanted o (yielded ops a.tmps) = b := by
  unfold want at h
  split at h
  · rename_i hg
    cases h
    simp [Region.wanted, hg]
  · rename_i y hg
    split at h
    · rename_i qo hq
      split at h
      · rename_i d hd
        have ht : d ∈ looks ops o := List.mem_append_right _ (by rw [hg]; simp [hq, hd])
        have hv := hs d ht
        rw [getP_path] at h
        change VR m (sv F d) _ at hv
        have hsv : sv F d = (F.get d).getD .undef := rfl
        rw [← hsv] at h
        split at h
        · rename_i c hc
          rw [hc] at hv
          have hv : a.tmps.getD d undef = .bool c := hv
          have h1 : a.tmps[d]? = some (.bool c) := by
            rw [Array.getD_eq_getD_getElem?] at hv
            cases h2 : a.tmps[d]? with
            | none => rw [h2] at hv; cases hv
            | some u => rw [h2] at hv; exact congrArg some hv
          injection h with h
          subst h
          obtain ⟨j, bb⟩ := y
          cases bb <;> cases c <;> simp [Region.wanted, hg, yielded, hq, hd, h1, bNot]
        · rename_i hc
          cases h
          rw [hc] at hv
          have hv : a.tmps.getD d undef = undef := hv
          have h1 : a.tmps[d]? = some undef ∨ a.tmps[d]? = none := by
            rw [Array.getD_eq_getD_getElem?] at hv
            cases h2 : a.tmps[d]? with
            | none => exact .inr rfl
            | some u => rw [h2] at hv; exact .inl (congrArg some hv)
          obtain ⟨j, bb⟩ := y
          rcases h1 with h1 | h1 <;> simp [Region.wanted, hg, yielded, hq, hd, h1, undef]
        · cases h
      · cases h
    · cases h
end
end Kv
end Go.Proofs.YtbemdcbglpjmiaaGreatDoor
