/- An evaluator of closed calls: states, operations, code. No program in sight. -/
import Derived.Test.YtngfeflemblljaaGreatDoorBase
namespace Go.Proofs.YtngfeflemblljaaGreatDoor
open Go.RowKit
namespace Ev
set_option linter.unusedVariables false

/-- A map from numbers. -/
inductive T (α : Type)
  | nil
  | node (v : Option α) (l r : T α)
  deriving DecidableEq
def T.get {α : Type} : T α → Nat → Option α
  | .nil, _ => none
  | .node v l r, k => match k with
    | 0 => v
    | k + 1 => match k % 2 with
      | 0 => l.get (k / 2)
      | _ => r.get (k / 2)
def T.set {α : Type} : Nat → T α → Nat → Option α → T α
  | 0, t, _, _ => t
  | d + 1, .nil, k, a => match k with
    | 0 => .node a .nil .nil
    | k + 1 => match k % 2 with
      | 0 => .node none (T.set d .nil (k / 2) a) .nil
      | _ => .node none .nil (T.set d .nil (k / 2) a)
  | d + 1, .node v l r, k, a => match k with
    | 0 => .node a l r
    | k + 1 => match k % 2 with
      | 0 => .node v (T.set d l (k / 2) a) r
      | _ => .node v l (T.set d r (k / 2) a)
def T.put {α : Type} (t : T α) (k : Nat) (a : Option α) : T α := T.set (k + 1) t k a
/-- A row of cells out of a list, from the number k on. -/
def T.fill {α : Type} (t : T α) (k : Nat) : List α → T α
  | [] => t
  | a :: l => (t.put k (some a)).fill (k + 1) l
/-- n cells from k on. -/
def T.take {α : Type} (t : T α) (k : Nat) : Nat → Option (List α)
  | 0 => some []
  | n + 1 => match t.get k with
    | none => none
    | some a => match t.take (k + 1) n with
      | none => none
      | some l => some (a :: l)
theorem T.set_same {α : Type} : ∀ (d : Nat) (t : T α) (k : Nat) (a : Option α), k < d → (T.set d t k a).get k = a
  | 0, _, _, _, h => by omega
  | d + 1, .nil, 0, a, _ => rfl
  | d + 1, .node v l r, 0, a, _ => rfl
  | d + 1, .nil, k + 1, a, h => by
    have hk : k / 2 < d := by omega
    rcases Nat.mod_two_eq_zero_or_one k with e | e <;> simp only [T.set, T.get, e] <;> exact T.set_same d _ _ a hk
  | d + 1, .node v l r, k + 1, a, h => by
    have hk : k / 2 < d := by omega
    rcases Nat.mod_two_eq_zero_or_one k with e | e <;> simp only [T.set, T.get, e] <;> exact T.set_same d _ _ a hk
theorem T.set_ne {α : Type} : ∀ (d : Nat) (t : T α) (k j : Nat) (a : Option α), j ≠ k → (T.set d t k a).get j = t.get j
  | 0, _, _, _, _, _ => rfl
  | d + 1, .nil, 0, 0, a, h => by omega
  | d + 1, .node v l r, 0, 0, a, h => by omega
  | d + 1, .nil, 0, j + 1, a, h => by
    rcases Nat.mod_two_eq_zero_or_one j with e | e <;> simp only [T.set, T.get, e]
  | d + 1, .node v l r, 0, j + 1, a, h => by
    rcases Nat.mod_two_eq_zero_or_one j with e | e <;> simp only [T.set, T.get, e]
  | d + 1, .nil, k + 1, 0, a, h => by
    rcases Nat.mod_two_eq_zero_or_one k with e | e <;> simp only [T.set, T.get, e]
  | d + 1, .node v l r, k + 1, 0, a, h => by
    rcases Nat.mod_two_eq_zero_or_one k with e | e <;> simp only [T.set, T.get, e]
  | d + 1, .nil, k + 1, j + 1, a, h => by
    rcases Nat.mod_two_eq_zero_or_one k with e | e <;> rcases Nat.mod_two_eq_zero_or_one j with e' | e' <;> simp only [T.set, T.get, e, e'] <;>
      first | rfl | (rw [T.set_ne d _ _ _ a (by omega)]; rfl)
  | d + 1, .node v l r, k + 1, j + 1, a, h => by
    rcases Nat.mod_two_eq_zero_or_one k with e | e <;> rcases Nat.mod_two_eq_zero_or_one j with e' | e' <;> simp only [T.set, T.get, e, e'] <;>
      first | rfl | (rw [T.set_ne d _ _ _ a (by omega)])
theorem T.put_same {α : Type} (t : T α) (k : Nat) (a : Option α) : (t.put k a).get k = a := T.set_same _ _ _ _ (by omega)
theorem T.put_ne {α : Type} (t : T α) {k j : Nat} (a : Option α) (h : j ≠ k) : (t.put k a).get j = t.get j := T.set_ne _ _ _ _ _ h
theorem T.get_put {α : Type} (t : T α) (k j : Nat) (a : Option α) : (t.put k a).get j = if j = k then a else t.get j := by
  split
  · subst_vars; exact T.put_same ..
  · exact T.put_ne _ _ (by assumption)
theorem T.get_nil {α : Type} (j : Nat) : (T.nil : T α).get j = none := by rw [T.get]
theorem T.get_fill {α : Type} : ∀ (l : List α) (t : T α) (k j : Nat), (t.fill k l).get j = if k ≤ j ∧ j < k + l.length then l[j - k]? else t.get j
  | [], t, k, j => by simp [T.fill]; omega
  | a :: l, t, k, j => by
    rw [T.fill, T.get_fill l _ (k + 1) j, T.get_put]
    by_cases h1 : k + 1 ≤ j ∧ j < k + 1 + l.length
    · rw [if_pos h1, if_pos (by simp; omega)]
      obtain ⟨d, rfl⟩ : ∃ d, j = k + 1 + d := ⟨j - (k + 1), by omega⟩
      rw [show k + 1 + d - (k + 1) = d by omega, show k + 1 + d - k = d + 1 by omega, List.getElem?_cons_succ]
    · rw [if_neg h1]
      by_cases h2 : j = k
      · subst h2; simp
      · rw [if_neg h2, if_neg (by simp; omega)]
theorem T.take_spec {α : Type} : ∀ (n : Nat) (t : T α) (k : Nat) (l : List α), t.take k n = some l → l.length = n ∧ ∀ i, i < n → t.get (k + i) = l[i]?
  | 0, t, k, l, h => by simp [T.take] at h; subst h; simp
  | n + 1, t, k, l, h => by
    rw [T.take] at h
    split at h
    · cases h
    · rename_i a ha
      split at h
      · cases h
      · rename_i r hr
        injection h with h
        subst h
        obtain ⟨h1, h2⟩ := T.take_spec n t (k + 1) r hr
        refine ⟨by simp [h1], fun i hi => ?_⟩
        cases i with
        | zero => simpa using ha
        | succ i => rw [List.getElem?_cons_succ, ← h2 i (by omega)]; congr 1; omega
def T.ofList {α : Type} (l : List α) : T α := T.nil.fill 0 l
theorem T.get_ofList {α : Type} (l : List α) (k : Nat) : (T.ofList l).get k = l[k]? := by
  rw [T.ofList, T.get_fill]
  split
  · simp
  · rename_i h
    rw [T.get_nil, List.getElem?_eq_none (by omega)]
end Ev
end Go.Proofs.YtngfeflemblljaaGreatDoor
