/- The fast evaluator: drawn regions, whatever the order. No program in sight. -/
import Derived.Test.YtbnnfoimkdbjaaaGreatDoorKvD
namespace Go.Proofs.YtbnnfoimkdbjaaaGreatDoor
open Go.RowKit
namespace Kv
open Ev
set_option linter.unusedVariables false
set_option linter.unusedSimpArgs false
/-- What a slot holds. -/
def sv (F : Fr) (t : Nat) : V := (F.get t).getD .undef
theorem sv_putV (d : Option Nat) (u : V) (F : Fr) (t : Nat) : sv (putV (dstP d) u F) t = if d = some t then u else sv F t := by
  cases d with
  | none => simp [dstP, putV]
  | some k =>
    show sv (putP u (path k) F) t = _
    rw [sv, putP_path, T.get_put]
    by_cases h : t = k
    · subst h; simp
    · rw [if_neg h, if_neg (by simpa using fun e => h e.symm)]; rfl
theorem sv_restr (F : Fr) (t : Nat) : ∀ (l : List Nat), sv (restr F (paths l)) t = if t ∈ l then sv F t else .undef
  | [] => by simp [sv, restr, paths, T.get_nil]
  | y :: l => by
    show sv (putP (getP (path y) F) (path y) (restr F (paths l))) t = _
    rw [sv, putP_path, T.get_put, getP_path]
    by_cases h : t = y
    · subst h; simp [sv]
    · rw [if_neg h]
      have := sv_restr F t l
      unfold sv at this
      rw [this]
      simp [h, sv]
/-- The frame when the operations of L have been carried out. -/
noncomputable def FL (ops : Array Oper) (F : Nat → Fr) (v : Nat → V) (L : Nat → Bool) : Nat → Fr
  | 0 => F 0
  | p + 1 => match L p with
    | true => putV (dstP ((ops[p]?).bind (·.dst))) (v p) (FL ops F v L p)
    | false => FL ops F v L p
/-- Operation i of the region makes the block z. -/
def AlAt (tt : T TypeInfo) (fl : T (List TypeDesc)) (ops : Array Oper) (F : Nat → Fr) (i : Nat) (z : Al) : Prop :=
  ∃ o f, ops[i]? = some o ∧ act tt fl o.op = .alloc f ∧ want ops o (F i) = some true ∧ f (restr (F i) (paths (looks ops o))) = some z
structure Facts (tt : T TypeInfo) (fl : T (List TypeDesc)) (n : Nat) (ops : Array Oper) (call : CallT) (F : Nat → Fr) (S : Nat → St) (v : Nat → V) (x pm M : Nat → Nat) (rds : List Rd) (bds : List Bd) : Prop where
  step : ∀ i o, ops[i]? = some o → StepAt tt fl n ops call F S v x pm M rds bds i o
  mask : ∀ i o, ops[i]? = some o → MaskAt M i o
  pair : ∀ i j a b, i < j → ops[i]? = some a → ops[j]? = some b → conf tt fl ops a b = true → bit (M j) i = true
  last : ⟨ops.size, S ops.size, pm ops.size⟩ ∈ bds
  chk : ∀ r ∈ rds, ∀ b ∈ bds, rdOk r b = true
  pm0 : pm 0 = 0
  x0 : 64 ≤ x 0
def Closed (ops : Array Oper) (L : Nat → Bool) : Prop := ∀ j o, L j = true → ops[j]? = some o → ∀ e ∈ o.after.toList, Region.binds .any e = true → L e.on = true
def Ready (ops : Array Oper) (L : Nat → Bool) (i : Nat) (o : Oper) : Prop := ops[i]? = some o ∧ L i = false ∧ ∀ e ∈ o.after.toList, Region.binds .any e = true → L e.on = true
def setL (L : Nat → Bool) (i : Nat) : Nat → Bool := fun j => if j = i then true else L j
section
variable {Pr : Program} {w0 : World} {tt : T TypeInfo} {fl : T (List TypeDesc)} {n : Nat} {ops : Array Oper} {call : CallT} {F : Nat → Fr} {S : Nat → St} {v : Nat → V} {x pm M : Nat → Nat} {rds : List Rd} {bds : List Bd}
  (hf : Facts tt fl n ops call F S v x pm M rds bds)
include hf
theorem Facts.waits {L : Nat → Bool} (hc : Closed ops L) : ∀ (i : Nat) (o : Oper), ops[i]? = some o → (∀ e ∈ o.after.toList, Region.binds .any e = true → L e.on = true) → ∀ p, bit (M i) p = true → L p = true := by
  intro i
  induction i using Nat.strongRecOn with
  | _ i ih =>
    intro o ho he p hp
    obtain ⟨h1, h2⟩ := hf.mask i o ho
    obtain ⟨e, g1, g2, g3⟩ := h2 p hp
    have hl := he e g1 g2
    rcases g3 with rfl | g3
    · exact hl
    · have hlt := h1 e g1 g2
      have hi : i < ops.size := (Array.getElem?_eq_some_iff.1 ho).1
      obtain ⟨o', ho'⟩ : ∃ o', ops[e.on]? = some o' := ⟨ops[e.on], Array.getElem?_eq_getElem (by omega)⟩
      exact ih e.on hlt o' ho' (hc e.on o' hl ho') p g3
theorem Facts.before {L : Nat → Bool} (hc : Closed ops L) {i p : Nat} {o o' : Oper} (hr : Ready ops L i o) (hp : ops[p]? = some o') (hlt : p < i) (hcf : conf tt fl ops o' o = true) : L p = true :=
  hf.waits hc i o hr.1 hr.2.2 p (hf.pair p i o' o hlt hp hr.1 hcf)
theorem Facts.behind {L : Nat → Bool} (hc : Closed ops L) {i p : Nat} {o o' : Oper} (hr : Ready ops L i o) (hp : ops[p]? = some o') (hlt : i < p) (hcf : conf tt fl ops o o' = true) : L p = false := by
  cases h : L p with
  | false => rfl
  | true =>
    have := hf.waits hc p o' hp (hc p o' h hp) i (hf.pair i p o o' hlt hr.1 hp hcf)
    rw [hr.2.1] at this
    cases this
omit hf in
theorem conf_of_dst {a b : Oper} {t : Nat} (h : a.dst = some t) (hn : t ∈ namesOf ops b) : conf tt fl ops a b = true := by
  have : hitsN a.dst (namesOf ops b) = true := by rw [h]; exact (hasN_iff _ _).2 hn
  simp [conf, this]
omit hf in
theorem conf_of_dst' {a b : Oper} {t : Nat} (h : b.dst = some t) (hn : t ∈ namesOf ops a) : conf tt fl ops a b = true := by
  have : hitsN b.dst (namesOf ops a) = true := by rw [h]; exact (hasN_iff _ _).2 hn
  simp [conf, this]
omit hf in
theorem conf_of_loud {a b : Oper} (h1 : (act tt fl a.op).isLoud = true) (h2 : (act tt fl b.op).isLoud = true) : conf tt fl ops a b = true := by
  simp [conf, h1, h2]
omit hf in
theorem names_looks {o : Oper} {t : Nat} (h : t ∈ looks ops o) : t ∈ namesOf ops o := by
  unfold namesOf
  split
  · exact List.mem_cons_of_mem _ h
  · exact h
omit hf in
theorem names_dst {o : Oper} {t : Nat} (h : o.dst = some t) : t ∈ namesOf ops o := by
  unfold namesOf
  rw [h]
  exact List.mem_cons_self
theorem Facts.frame {i : Nat} {o : Oper} (ho : ops[i]? = some o) : F (i + 1) = putV (dstP o.dst) (v i) (F i) := (hf.step i o ho).2.1
/-- What operation i looks at is there when it may come up. -/
theorem Facts.looked {L : Nat → Bool} (hc : Closed ops L) {i : Nat} {o : Oper} (hr : Ready ops L i o) {t : Nat} (ht : t ∈ looks ops o) : sv (FL ops F v L ops.size) t = sv (F i) t := by
  have hi : i < ops.size := (Array.getElem?_eq_some_iff.1 hr.1).1
  have h1 : ∀ p, p ≤ i → sv (FL ops F v L p) t = sv (F p) t := by
    intro p
    induction p with
    | zero => intro _; rfl
    | succ p ih =>
      intro hp
      have ih := ih (by omega)
      obtain ⟨o', ho'⟩ : ∃ o', ops[p]? = some o' := ⟨ops[p], Array.getElem?_eq_getElem (by omega)⟩
      rw [hf.frame ho', sv_putV]
      rw [FL]
      by_cases hd : o'.dst = some t
      · rw [if_pos hd, hf.before hc hr ho' (by omega) (conf_of_dst hd (names_looks ht))]
        simp only
        rw [sv_putV, ho']
        simp [hd]
      · rw [if_neg hd, ← ih]
        split
        · rw [sv_putV, ho']; simp [hd]
        · rfl
  have h2 : ∀ p, i ≤ p → p ≤ ops.size → sv (FL ops F v L p) t = sv (FL ops F v L i) t := by
    intro p
    induction p with
    | zero => intro h _; have : i = 0 := by omega
              subst this; rfl
    | succ p ih =>
      intro hip hps
      by_cases hpi : i = p + 1
      · subst hpi; rfl
      · have ih := ih (by omega) (by omega)
        rw [FL, ← ih]
        obtain ⟨o', ho'⟩ : ∃ o', ops[p]? = some o' := ⟨ops[p], Array.getElem?_eq_getElem (by omega)⟩
        by_cases hpe : p = i
        · subst hpe; rw [hr.2.1]
        · by_cases hd : o'.dst = some t
          · rw [hf.behind hc hr ho' (by omega) (conf_of_dst' hd (names_looks ht))]
          · split
            · rw [sv_putV, ho']; simp [hd]
            · rfl
  rw [h2 _ (by omega) (Nat.le_refl _), h1 _ (Nat.le_refl _)]
theorem Facts.listed {L : Nat → Bool} (hc : Closed ops L) {i : Nat} {o : Oper} (hr : Ready ops L i o) (t : Nat) : sv (FL ops F v (setL L i) ops.size) t = if o.dst = some t then v i else sv (FL ops F v L ops.size) t := by
  have hi : i < ops.size := (Array.getElem?_eq_some_iff.1 hr.1).1
  have h1 : ∀ p, p ≤ i → FL ops F v (setL L i) p = FL ops F v L p := by
    intro p
    induction p with
    | zero => intro _; rfl
    | succ p ih =>
      intro hp
      rw [FL, FL, ih (by omega)]
      simp only [setL, if_neg (show p ≠ i by omega)]
  have h2 : ∀ p, i + 1 ≤ p → p ≤ ops.size → sv (FL ops F v (setL L i) p) t = if o.dst = some t then v i else sv (FL ops F v L p) t := by
    intro p
    induction p with
    | zero => intro h _; omega
    | succ p ih =>
      intro hip hps
      by_cases hpe : p = i
      · subst hpe
        rw [FL, FL, h1 _ (Nat.le_refl _), hr.2.1]
        simp only [setL, if_true]
        rw [sv_putV, hr.1]
        rfl
      · have ih := ih (by omega) (by omega)
        obtain ⟨o', ho'⟩ : ∃ o', ops[p]? = some o' := ⟨ops[p], Array.getElem?_eq_getElem (by omega)⟩
        rw [FL, FL]
        have hs : setL L i p = L p := by simp [setL, hpe]
        rw [hs]
        cases hL : L p with
        | false => exact ih
        | true =>
          simp only
          rw [sv_putV, sv_putV, ih, ho']
          simp only [Option.bind_some]
          by_cases hd : o'.dst = some t
          · rw [if_pos hd, if_pos hd]
            by_cases hd2 : o.dst = some t
            · have := hf.behind hc hr ho' (by omega) (conf_of_dst hd2 (names_dst hd))
              rw [hL] at this
              cases this
            · rw [if_neg hd2]
          · rw [if_neg hd, if_neg hd]
  exact h2 _ hi (Nat.le_refl _)
theorem Facts.all {L : Nat → Bool} (h : ∀ i, i < ops.size → L i = true) : ∀ p, p ≤ ops.size → FL ops F v L p = F p
  | 0, _ => rfl
  | p + 1, hp => by
    obtain ⟨o', ho'⟩ : ∃ o', ops[p]? = some o' := ⟨ops[p], Array.getElem?_eq_getElem (by omega)⟩
    rw [FL, h p (by omega), hf.frame ho', Facts.all h p (by omega), ho']
    rfl
omit hf in
theorem FL_none : ∀ p, FL ops F v (fun _ => false) p = F 0
  | 0 => rfl
  | p + 1 => by rw [FL]; exact FL_none p
/-! Numbers of new blocks -/
theorem Facts.xstep {i : Nat} {o : Oper} (ho : ops[i]? = some o) : x i ≤ x (i + 1) ∧ ((act tt fl o.op).isAlloc = true → x i < x (i + 1)) := by
  have h := (hf.step i o ho).2.2.1
  rw [h]
  split
  · exact ⟨Nat.le_succ _, fun _ => Nat.lt_succ_self _⟩
  · rename_i hn; exact ⟨Nat.le_refl _, fun e => by rw [hn] at e; cases e⟩
theorem Facts.xmono {i : Nat} : ∀ {j : Nat}, i ≤ j → j ≤ ops.size → x i ≤ x j
  | 0, h, _ => by have : i = 0 := by omega
                  subst this; exact Nat.le_refl _
  | j + 1, h, hj => by
    by_cases he : i = j + 1
    · subst he; exact Nat.le_refl _
    · obtain ⟨o', ho'⟩ : ∃ o', ops[j]? = some o' := ⟨ops[j], Array.getElem?_eq_getElem (by omega)⟩
      exact Nat.le_trans (Facts.xmono (by omega) (by omega)) (hf.xstep ho').1
theorem Facts.xlt {i j : Nat} {z : Al} (hi : AlAt tt fl ops F i z) (hij : i < j) (hj : j ≤ ops.size) : x i < x j := by
  obtain ⟨o, f, ho, ha, _⟩ := hi
  have h1 := (hf.xstep ho).2 (by rw [ha]; rfl)
  have h2 := hf.xmono (i := i + 1) (j := j) hij hj
  omega
theorem Facts.xtop {i : Nat} {z : Al} (hi : AlAt tt fl ops F i z) : 64 ≤ x i ∧ x i < x ops.size := by
  have h0 := hi
  obtain ⟨o, f, ho, _⟩ := hi
  have hlt : i < ops.size := (Array.getElem?_eq_some_iff.1 ho).1
  have h1 := hf.xmono (i := 0) (j := i) (Nat.zero_le _) (by omega)
  have h2 := hf.x0
  exact ⟨by omega, hf.xlt h0 hlt (Nat.le_refl _)⟩
theorem Facts.xne {i j : Nat} {z z' : Al} (hi : AlAt tt fl ops F i z) (hj : AlAt tt fl ops F j z') (hne : i ≠ j) : x i ≠ x j := by
  have hi' := hi
  have hj' := hj
  obtain ⟨o, f, ho, _⟩ := hi'
  obtain ⟨o', f', ho', _⟩ := hj'
  have h1 : i < ops.size := (Array.getElem?_eq_some_iff.1 ho).1
  have h2 : j < ops.size := (Array.getElem?_eq_some_iff.1 ho').1
  rcases Nat.lt_or_ge i j with h | h
  · have := hf.xlt hi h (by omega); omega
  · have := hf.xlt hj (by omega : j < i) (by omega); omega
/-- Whoever is waited for by the loud ones that are through has come up. -/
theorem Facts.pmbit {i : Nat} : ∀ {q : Nat}, q ≤ ops.size → bit (pm q) i = true → ∃ p o, p < q ∧ ops[p]? = some o ∧ (act tt fl o.op).isLoud = true ∧ bit (M p) i = true
  | 0, _, h => by rw [hf.pm0] at h; simp [bit] at h
  | q + 1, hq, h => by
    obtain ⟨o', ho'⟩ : ∃ o', ops[q]? = some o' := ⟨ops[q], Array.getElem?_eq_getElem (by omega)⟩
    rw [(hf.step q o' ho').2.2.2.1] at h
    split at h
    · rename_i hl
      rw [bit_lor, Bool.or_eq_true] at h
      rcases h with h | h
      · obtain ⟨p, o, h1, h2⟩ := Facts.pmbit (by omega) h
        exact ⟨p, o, by omega, h2⟩
      · exact ⟨q, o', by omega, ho', hl, h⟩
    · obtain ⟨p, o, h1, h2⟩ := Facts.pmbit (by omega) h
      exact ⟨p, o, by omega, h2⟩
end
end Kv
end Go.Proofs.YtbnnfoimkdbjaaaGreatDoor
