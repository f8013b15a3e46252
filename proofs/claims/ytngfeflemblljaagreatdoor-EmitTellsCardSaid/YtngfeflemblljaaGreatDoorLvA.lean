/- The fast evaluator: a state is as it was behind a call that leaves its blocks as they were; a block of the world that the state did not know. No program in sight. -/
import Derived.Test.YtngfeflemblljaaGreatDoorKvY
namespace Go.Proofs.YtngfeflemblljaaGreatDoor
open Go.RowKit
namespace Kv
open Ev
theorem all2_down {α β γ : Type} {R : α → β → Prop} {S T : α → γ → Prop} (h : ∀ a b c, R a b → S a c → T a c) : ∀ {l : List α} {r : List β} {s : List γ}, All2 R l r → All2 S l s → All2 T l s
  | [], [], [], _, _ => trivial
  | _ :: _, _ :: _, _ :: _, h1, h2 => ⟨h _ _ _ h1.1 h2.1, all2_down h h1.2 h2.2⟩
theorem PA.down {m m' : M} (e : Ext m m') {a : Nat × Nat} {v v' : Value} (h : PA m a v) (h' : PA m' a v') : PA m a v' := by
  obtain ⟨r, h1, _⟩ := h
  obtain ⟨r', h2, h3⟩ := h'
  rw [e _ _ h1] at h2
  cases h2
  exact ⟨r, h1, h3⟩
theorem CR.down {m m' : M} (e : Ext m m') {x : C} {v v' : Value} (h : CR m x v) (h' : CR m' x v') : CR m x v' := by
  cases x with
  | ptr a => cases a with
    | none => exact h'
    | some a => exact PA.down e h h'
  | sl b o len kn cap => cases kn with
    | true =>
      obtain ⟨r, h1, _⟩ := h
      obtain ⟨r', h2, h3⟩ := h'
      rw [e _ _ h1] at h2
      cases h2
      exact ⟨r, h1, h3⟩
    | false =>
      obtain ⟨r, h1, _⟩ := h
      obtain ⟨r', h2, h3⟩ := h'
      rw [e _ _ h1] at h2
      cases h2
      exact ⟨r, h1, h3⟩
  | map b => cases b with
    | none => exact h'
    | some b =>
      obtain ⟨r, h1, _⟩ := h
      obtain ⟨r', h2, h3⟩ := h'
      rw [e _ _ h1] at h2
      cases h2
      exact ⟨r, h1, h3⟩
  | fn f cap =>
    obtain ⟨vs, _, h1⟩ := h
    obtain ⟨vs', h2, h3⟩ := h'
    exact ⟨vs', h2, all2_down (R := PA m) (S := PA m') (T := PA m) (fun _ _ _ p q => PA.down e p q) h1 h3⟩
  | int => exact h'
  | bool => exact h'
  | str => exact h'
  | nsl => exact h'
  | slx => exact h'
  | nilfn => exact h'
  | nilif => exact h'
theorem PR.down {m m' : M} (e : Ext m m') {x : P} {v v' : Value} (h : PR m x v) (h' : PR m' x v') : PR m x v' := by
  cases x with
  | c x => exact CR.down e h h'
  | agg l =>
    obtain ⟨vs, _, h1⟩ := h
    obtain ⟨vs', h2, h3⟩ := h'
    exact ⟨vs', h2, all2_down (R := CR m) (S := CR m') (T := CR m) (fun _ _ _ p q => CR.down e p q) h1 h3⟩
theorem BR.down {m m' : M} (e : Ext m m') {r : Nat × Nat} {b : B} {o o' : Option Obj} (h : BR m r b o) (h' : BR m' r b o') : BR m r b o' := by
  cases b with
  | row t n cs u =>
    obtain ⟨_, _, _, _, _, _, h4, _⟩ := h
    obtain ⟨cur, ty, fr, g1, g2, g3, g4, g5⟩ := h'
    refine ⟨cur, ty, fr, g1, g2, g3, fun j c hj hc => ?_, g5⟩
    obtain ⟨v, _, k2⟩ := h4 j c hj hc
    obtain ⟨v', k3, k4⟩ := g4 j c hj hc
    exact ⟨v', k3, CR.down e k2 k4⟩
  | map es clk =>
    obtain ⟨_, _, _, h3⟩ := h
    obtain ⟨res, g1, g2, g3⟩ := h'
    exact ⟨res, g1, g2, all2_down (fun _ _ _ p q => ⟨PR.down e p.1 q.1, PR.down e p.2.1 q.2.1, q.2.2⟩) h3 g3⟩
  | iter s pos => exact h'
  | miter b since seen last =>
    obtain ⟨q, h1, _⟩ := h
    obtain ⟨q', h2, h3⟩ := h'
    rw [e _ _ h1] at h2
    cases h2
    exact ⟨q, h1, h3⟩
section
variable {w0 w w' : World} {m m' : M} {σ σ' : St}
theorem HR.back (h : HR w0 m σ w) (hG : Gr m σ w m' σ' w') (hH : HR w0 m' σ' w') (hs : ∀ i b, σ.heap.get i = some b → σ'.heap.get i = some b) : HR w0 m σ w' :=
  ⟨hH.below, h.glob, h.sym, h.most, h.fresh, fun i r hi hr => ⟨(h.own i r hi hr).1, Nat.lt_of_lt_of_le (h.own i r hi hr).2 hG.size⟩,
    fun i b r hi hr => BR.down hG.ext (h.live i b r hi hr) (hH.live i b r (hs i b hi) (hG.ext _ _ hr)), h.inj⟩
/-- What is said of a state hangs on the blocks that it knows. -/
theorem HR.far (h : HR w0 m σ w) {n : Nat} (hn : w0.heap.size ≤ n) (hk : ∀ i b r, σ.heap.get i = some b → m i = some r → r.1 < n) (hz : w.heap.size ≤ w'.heap.size) (ho : w'.os = w.os) (ht : w'.tape = w.tape) (hu : w'.output = w.output) (hb : ∀ b, b < n → w'.heap[b]? = w.heap[b]?) : HR w0 m σ w' :=
  ⟨⟨ho.trans h.below.os, ht.trans h.below.tape, hu.trans h.below.output, Nat.le_trans h.below.size hz, fun b hlt => (hb b (by omega)).trans (h.below.block b hlt)⟩, h.glob, h.sym, h.most, h.fresh,
    fun i r hi hr => ⟨(h.own i r hi hr).1, Nat.lt_of_lt_of_le (h.own i r hi hr).2 hz⟩, fun i b r hi hr => by rw [hb r.1 (hk i b r hi hr)]; exact h.live i b r hi hr, h.inj⟩
/-- A block of the world that the state did not know is known now. -/
theorem HR.adopt (h : HR w0 m σ w) {g k : Nat} {b : B} (hg : w0.heap.size ≤ g) (hlt : g < w.heap.size) (hn : ∀ i x r, σ.heap.get i = some x → m i = some r → r.1 ≠ g) (hb : BR (m.add σ.next (g, k)) (g, k) b w.heap[g]?) :
    HR w0 (m.add σ.next (g, k)) ⟨σ.heap.put σ.next (some b), σ.next + 1⟩ w := by
  have hf := h.fresh σ.next (Nat.le_refl _)
  have he := M.ext_add (g, k) hf
  have hm := h.most
  refine ⟨h.below, fun i hi => by rw [M.add_ne _ _ (by omega)]; exact h.glob i hi, by rw [M.add_ne _ _ (by omega)]; exact h.sym, Nat.le_succ_of_le h.most, fun i hi => ?_, fun i r hi hr => ?_, fun i x r hi hr => ?_, fun i j bi bj r q hi hj hr hq hrq => ?_⟩
  · have hi : σ.next + 1 ≤ i := hi
    rw [M.add_ne _ _ (by omega)]
    exact h.fresh i (by omega)
  · by_cases e : i = σ.next
    · subst e
      rw [M.add_same] at hr
      cases hr
      exact ⟨hg, hlt⟩
    · rw [M.add_ne _ _ e] at hr
      exact h.own i r hi hr
  · have hi2 : (σ.heap.put σ.next (some b)).get i = some x := hi
    clear hi
    rw [T.get_put] at hi2
    split at hi2
    · rename_i e
      subst e
      rw [M.add_same] at hr
      cases hr
      cases hi2
      exact hb
    · rename_i e
      have e' : i ≠ σ.next := fun q => e (by rw [q])
      rw [M.add_ne _ _ e'] at hr
      exact (h.live i x r hi2 hr).ext he
  · have hi2 : (σ.heap.put σ.next (some b)).get i = some bi := hi
    have hj2 : (σ.heap.put σ.next (some b)).get j = some bj := hj
    clear hi hj
    rw [T.get_put] at hi2 hj2
    split at hi2 <;> split at hj2
    · omega
    · rename_i e1 e2
      have e2' : j ≠ σ.next := fun q => e2 (by rw [q])
      subst e1
      rw [M.add_same] at hr
      cases hr
      rw [M.add_ne _ _ e2'] at hq
      exact absurd hrq.symm (hn j bj q hj2 hq)
    · rename_i e1 e2
      have e1' : i ≠ σ.next := fun q => e1 (by rw [q])
      subst e2
      rw [M.add_same] at hq
      cases hq
      rw [M.add_ne _ _ e1'] at hr
      exact absurd hrq (hn i bi r hi2 hr)
    · rename_i e1 e2
      have e1' : i ≠ σ.next := fun q => e1 (by rw [q])
      have e2' : j ≠ σ.next := fun q => e2 (by rw [q])
      rw [M.add_ne _ _ e1'] at hr
      rw [M.add_ne _ _ e2'] at hq
      exact h.inj i j bi bj r q hi2 hj2 hr hq hrq
theorem Gr.adopt (h : HR w0 m σ w) {g k : Nat} {b : B} (hz : w.heap.size ≤ w'.heap.size) (hg : w.heap.size ≤ g) (hk : ∀ b, b < w.heap.size → (∀ i x r, σ.heap.get i = some x → m i = some r → r.1 ≠ b) → w'.heap[b]? = w.heap[b]?) :
    Gr m σ w (m.add σ.next (g, k)) ⟨σ.heap.put σ.next (some b), σ.next + 1⟩ w' := by
  have hf := h.fresh σ.next (Nat.le_refl _)
  refine ⟨M.ext_add (g, k) hf, h.fresh, Nat.le_succ _, hz, fun i r hr => ?_, fun i hi _ => ?_, fun i hi hd => ?_, hk⟩
  · by_cases e : i = σ.next
    · subst e
      rw [M.add_same] at hr
      cases hr
      exact .inr ⟨hf, Nat.le_refl _, .inl hg⟩
    · rw [M.add_ne _ _ e] at hr
      exact .inl hr
  · show (σ.heap.put σ.next (some b)).get i = _
    rw [T.put_ne _ _ (by omega)]
  · show (σ.heap.put σ.next (some b)).get i = _
    rw [T.put_ne _ _ (by omega)]
    exact hd
end
end Kv
end Go.Proofs.YtngfeflemblljaaGreatDoor
